/- The document's examples, on plain data. The document's examples: the calls. -/
import Derived.Test.YtbdappbmlnpogaaSame
namespace Go.Proofs.Ytbdappbmlnpogaa
open Go Go.RowKit
set_option maxRecDepth 100000
def wz : Tm := .mk 3 ByteArray.empty 0 []
def wf : Tm := .mk 0 ⟨#[102]⟩ 0 []
def wo : Tm := .mk 3 ByteArray.empty 1 []
def WS : St := ⟨[⟨0, false, Tm.zero⟩], []⟩
theorem works_fresh : (St.fresh ⟨[], []⟩ 0) = WS := rfl
theorem works_1 : WS.invert 0 [wz] (Tm.apply wf [wz]) 9 = ((Tm.lams 1 (Tm.apply wf [wz]), 7, 0), WS) := by kernel_rfl
theorem works_2 : WS.invert 0 [wz] wo 9 = ((Tm.zero, 0, 170), WS) := by kernel_rfl
theorem works_3 : WS.args 0 [Tm.lams 1 (Tm.apply wo [wz])] 9 = ([wz], 6, 0) := by kernel_rfl
theorem works_4 : WS.args 0 [wf] 9 = ([], 0, 171) := by kernel_rfl
theorem works_ok : WS.Ok 4097 DB := ⟨Nat.le_refl _, fun i hi hb => by simp [WS] at hi; subst hi; cases hb⟩
theorem works_ask (t : Tm) (hv : t.valid = true) (hb : t.bnd DB = true) (hs : t.size ≤ 4096) : Ask ⟨0, (WS.info 0).1.lv, [wz]⟩ 4097 ⟨WS, 9, 0⟩ t DB :=
  ⟨works_ok, by simp, by decide, hv, hb, Int.le_refl _, by have : SB = 1073741824 := rfl; simp; omega, by decide, by simp [WS], by simp [WS]⟩
end Go.Proofs.Ytbdappbmlnpogaa
namespace Go.Proofs.Ytbdappbmlnpogaa
open Go Go.RowKit
set_option maxRecDepth 100000
abbrev zb3 : Obj := .cells #[.int .i64 3, .string ⟨#[]⟩, .int .i64 0, .slice none 0 0] 30 (0, 0)
abbrev fb4 : Obj := .cells #[.int .i64 0, .string ⟨#[102]⟩, .int .i64 0, .slice none 0 0] 30 (0, 0)
theorem rep_wf (H : GH) : Rep H wf [.int .i64 0, .string ⟨#[102]⟩, .int .i64 0, .slice none 0 0] := Rep.shut (by unfold I64; omega) (by unfold I64; omega) (by decide) (Sl.nil _ _ _)
theorem rep_wz (H : GH) : Rep H wz [.int .i64 3, .string ⟨#[]⟩, .int .i64 0, .slice none 0 0] := rep_leafT H 3 0 (by unfold I64; omega) (by unfold I64; omega)
theorem rep_wo (H : GH) : Rep H wo [.int .i64 3, .string ⟨#[]⟩, .int .i64 1, .slice none 0 0] := rep_leafT H 3 1 (by unfold I64; omega) (by unfold I64; omega)
/-- A box with a term is a slice of one term. -/
theorem box_tms {H : GH} {W : World} {g : Nat} {t : Tm} {a : Option Addr} {c : Nat} (hA : Agree H W) (hR : Rep H t (tcells t a c).toList) (hb : W.heap[g]? = some (tbox t a c)) (hn : H g = none) :
    Sub H (H.put g (tbox t a c)) ∧ Agree (H.put g (tbox t a c)) W ∧ Tms (H.put g (tbox t a c)) (.slice (some ⟨g, 0, none⟩) 1 1) [t] := by
  obtain ⟨s1, a1, t1⟩ := sl_box (e := 30) (sz := 4) (P := Rep H) hA rfl hR g (tcells t a c) hb rfl hn 1 (Nat.le_refl _) (by simp [maxLen])
  exact ⟨s1, a1, Sl.mono (Sub.refl _) (fun _ _ _ h => Rep.mono s1 h) t1⟩
theorem StAt.put {H : GH} {W : World} {F : Nat → Prop} {s : Nat} {S : St} (h : StAt H W F s S) {g : Nat} {o : Obj} (hn : H g = none) (hF : ¬ F g) : StAt (H.put g o) W F s S :=
  h.sub (GH.sub_put hn o) (fun k hk => GH.put_other H o (fun e => hF (e ▸ hk)))
def ApplyPost (H : GH) (W : World) (t : Tm) (e : Ending) (w' : World) : Prop := ∃ H' cs', e = .returned (.agg cs'.toArray) ∧ Pure H W H' w' ∧ Rep H' t cs'
theorem works_apply {H : GH} {W : World} {g : Nat} {t : Tm} {tcs : List Value} (hR : Rep H t tcs) (hA : Agree H W) (hb : W.heap[g]? = some zb3) (hn : H g = none) (h6 : t.k = 6 → t.l ≠ []) (hl : (t.apply [wz]).l.length ≤ LB) :
    Calls Try.prog 14 #[.agg tcs.toArray, .slice (some ⟨g, 0, none⟩) 1 1] W (ApplyPost (H.put g zb3) W (t.apply [wz])) := by
  obtain ⟨s1, a1, t1⟩ := box_tms (t := wz) (a := none) (c := 0) hA (rep_wz H) hb hn
  exact term_Apply t tcs [wz] _ (H.put g zb3) W (hR.mono s1) t1 a1 h6 hl
theorem works_invert {H : GH} {W : World} {F : Nat → Prop} {s g : Nat} {t : Tm} {tcs : List Value} (hA : Agree H W) (hS : StAt H W F s WS) (hb : W.heap[g]? = some zb3) (hn : H g = none) (hF : ¬ F g) (hR : Rep H t tcs) (hv : t.valid = true) (hbd : t.bnd DB = true) (hs : t.size ≤ 4096) :
    Calls Try.prog 19 #[.pointer (some ⟨s, 0, none⟩), .int .i64 0, .slice (some ⟨g, 0, none⟩) 1 1, .agg tcs.toArray, .int .i64 9] W (InvertPost F (H.put g zb3) W s (WS.invert 0 [wz] t 9)) := by
  obtain ⟨s1, a1, t1⟩ := box_tms (t := wz) (a := none) (c := 0) hA (rep_wz H) hb hn
  exact invert_Invert (H.put g zb3) W s WS 4097 DB 0 [wz] _ t tcs 9 a1 (hS.put hn hF) (by unfold I64; omega) t1 (by simp) (hR.mono s1) (by unfold I64; omega) (fun _ => works_ask t hv hbd hs)
theorem works_args {H : GH} {W : World} {F : Nat → Prop} {s g : Nat} {t : Tm} {a : Option Addr} {c : Nat} (hA : Agree H W) (hS : StAt H W F s WS) (hb : W.heap[g]? = some (tbox t a c)) (hn : H g = none) (hF : ¬ F g) (hR : Rep H t (tcells t a c).toList) (hbd : t.valid = true → t.bnd DB = true) (hs : t.size ≤ 4096) :
    Calls Try.prog 20 #[.pointer (some ⟨s, 0, none⟩), .int .i64 0, .slice (some ⟨g, 0, none⟩) 1 1, .int .i64 9] W (ArgsPost (H.put g (tbox t a c)) W (WS.args 0 [t] 9)) := by
  obtain ⟨s1, a1, t1⟩ := box_tms hA hR hb hn
  have hss : SB = 1073741824 := rfl
  exact invert_Args (H.put g (tbox t a c)) W s WS 4097 DB 0 [t] _ 9 a1 (hS.put hn hF) t1 (by simp) (by simpa using hbd) works_ok (by simp; omega) (by decide) (by unfold I64; omega)
/-- What holds behind the first inversion. -/
def WorkMid (H : GH) (w : World) (s b3 b4 : Nat) (p n e : Value) (wx : World) : Prop :=
  ∃ (F : Nat → Prop) (H' : GH) (g : Nat) (ta : Option Addr) (tc : Nat), p = .pointer (some ⟨g, 0, none⟩) ∧ n = .int .i64 7 ∧ e = .int .i64 0 ∧ Pure H w H' wx ∧ StAt H' wx F s WS ∧ ¬ F g ∧ ¬ F b3 ∧ ¬ F b4 ∧ (∀ k, F k → w.heap.size ≤ k ∧ k < wx.heap.size) ∧ Rep H' (Tm.lams 1 (Tm.apply wf [wz])) (tcells (Tm.lams 1 (Tm.apply wf [wz])) ta tc).toList ∧ wx.heap[g]? = some (tbox (Tm.lams 1 (Tm.apply wf [wz])) ta tc) ∧ wx.heap[b3]? = some zb3 ∧ wx.heap[b4]? = some fb4
end Go.Proofs.Ytbdappbmlnpogaa
