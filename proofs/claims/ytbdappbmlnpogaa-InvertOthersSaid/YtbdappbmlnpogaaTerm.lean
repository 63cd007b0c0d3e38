/- term.within, Size, moved, walk, Shift, Subst. -/
import Derived.Test.YtbdappbmlnpogaaApply
import Derived.StillTailTactics
namespace Go.Proofs.Ytbdappbmlnpogaa
open Go Go.Proofs Go.RowKit
set_option maxRecDepth 100000
section
variable {O : Nat → Prop} {H H1 : GH} {w w1 : World}
theorem Ext.store4 (E : Ext O H w H1 w1) {b : Nat} (hn : H1 b = none) (hb : w.heap.size ≤ b) (v0 v1 v2 v3 : Value) : Ext O H w H1 ((((w1.setCell ⟨b, 0, none⟩ v0).setCell ⟨b, 1, none⟩ v1).setCell ⟨b, 2, none⟩ v2).setCell ⟨b, 3, none⟩ v3) :=
  (((E.setCell (p := ⟨b, 0, none⟩) hn (fun h => absurd h (Nat.not_lt.2 hb)) v0).setCell (p := ⟨b, 1, none⟩) hn (fun h => absurd h (Nat.not_lt.2 hb)) v1).setCell (p := ⟨b, 2, none⟩) hn (fun h => absurd h (Nat.not_lt.2 hb)) v2).setCell (p := ⟨b, 3, none⟩) hn (fun h => absurd h (Nat.not_lt.2 hb)) v3
end
theorem Tms.drop {H : GH} {b o n cap : Nat} {l : List Tm} (h : Tms H (.slice (some ⟨b, o, none⟩) n cap) l) (k : Nat) (hk : k ≤ n) : Tms H (.slice (some ⟨b, o + k * 4, none⟩) (n - k) (cap - k)) (l.drop k) := by
  obtain ⟨a, cap', C, hv, hl, hc, hr, hx⟩ := h
  injection hv with h1 h2 h3
  subst h1; subst h2; subst h3
  refine ⟨_, _, fun i => C (i + k), by rw [List.length_drop], by rw [List.length_drop]; omega, by omega, fun hn => ?_, fun i x hi => ?_⟩
  · rw [List.length_drop] at hn ⊢
    obtain ⟨b', o', hb, hcell⟩ := hr (by omega)
    injection hb with hb
    injection hb with hb1 hb2
    subst hb1; subst hb2
    refine ⟨b, o + k * 4, rfl, fun i hi => ?_⟩
    obtain ⟨h1, h2⟩ := hcell (i + k) (by omega)
    refine ⟨h1, fun j u hu => ?_⟩
    have := h2 j u hu
    rw [show o + k * 4 + (i * 4 + j) = o + ((i + k) * 4 + j) by omega]
    exact this
  · rw [List.getElem?_drop] at hi
    rw [Nat.add_comm] at hi
    exact hx (i + k) x hi
def Tm.kids (t : Tm) : List Tm := if t.k = 5 ∨ t.k = 6 then t.l else []
theorem term_within (t : Tm) (cs : List Value) (H : GH) (w : World) (hR : Rep H t cs) :
    Calls Try.prog 63 #[.agg cs.toArray] w fun e w' => ∃ v, e = .returned (.tuple #[v, .int .i64 t.by_]) ∧ Tms H v t.kids ∧ Below w.heap.size w w' := by
  obtain ⟨a, cap, rfl, hk, hn, hs, hl⟩ := hR.open_
  by_cases h5 : t.k = 5
  · have hb : t.by_ = 1 := by simp [Tm.by_, h5]
    have hkk : t.kids = t.l := by simp [Tm.kids, h5]
    rw [hb, hkk, h5]
    clear hb hkk h5
    have b5 : ((5 : Int) == 5) = true := rfl
    go_enter Try.func63, Try.ntmps63
    go_wp2_with fail
    go_ret2
    exact ⟨_, rfl, hl, below_alloc _ _⟩
  · have b5 : (t.k == 5) = false := by rw [beq_eq_false_iff_ne]; exact h5
    have hb : t.by_ = 0 := by simp [Tm.by_, h5]
    rw [hb]
    by_cases h6 : t.k = 6
    · have hkk : t.kids = t.l := by simp [Tm.kids, h6]
      have b6 : (t.k == 6) = true := by rw [beq_iff_eq]; exact h6
      rw [hkk]
      clear hb hkk h6 h5
      go_enter Try.func63, Try.ntmps63
      go_wp2_with fail
      go_ret2
      exact ⟨_, rfl, hl, below_alloc _ _⟩
    · have hkk : t.kids = [] := by simp [Tm.kids, h5, h6]
      have b6 : (t.k == 6) = false := by rw [beq_eq_false_iff_ne]; exact h6
      rw [hkk]
      clear hb hkk h6 h5
      go_enter Try.func63, Try.ntmps63
      go_wp2_with fail
      go_ret2
      exact ⟨_, rfl, Sl.nil _ _ _, below_alloc _ _⟩
theorem term_moved (t : Tm) (cs : List Value) (b : Int) (H : GH) (w : World) (hR : Rep H t cs) (hA : Agree H w) (hb : I64 (t.n + b)) :
    Calls Try.prog 99 #[.agg cs.toArray, .int .i64 b] w fun e w' => ∃ cs', e = .returned (.agg cs'.toArray) ∧ Rep H (Tm.moved t b) cs' ∧ Below w.heap.size w w' := by
  obtain ⟨a, cap, rfl, hk, hn, hs, hl⟩ := hR.open_
  have hb' := hb
  unfold I64 at hb'
  obtain ⟨hb1, hb2⟩ := hb'
  have hw := IntWalk.i64_in (t.n + b) (by omega)
  go_enter Try.func99, Try.ntmps99
  go_wp2_with fail
  exact bodyPost_ret (v := .agg #[.int .i64 t.k, .string t.s, .int .i64 (t.n + b), .slice a t.l.length cap]) (by simp [results, Try.results99, go_sem]) rfl ⟨_, rfl, Rep.shut hk hb hs hl, ((Below.refl _ _).alloc (Nat.le_refl _) _).alloc (by simp) _⟩
theorem gsize_mk (k : Int) (s : ByteArray) (n : Int) (l : List Tm) : (Tm.mk k s n l).gsize = 1 + Tm.gsizeL (Tm.kids (.mk k s n l)) := by
  rw [Tm.gsize]
  show _ = 1 + Tm.gsizeL (if k = 5 ∨ k = 6 then l else [])
  by_cases h : k = 5 ∨ k = 6
  · rw [if_pos h, if_pos h]
  · rw [if_neg h, if_neg h, Tm.gsizeL]
theorem gsizeL_append (a b : List Tm) : Tm.gsizeL (a ++ b) = Tm.gsizeL a + Tm.gsizeL b := by
  induction a with
  | nil => rw [List.nil_append, Tm.gsizeL]; omega
  | cons x xs ih => rw [List.cons_append, Tm.gsizeL, Tm.gsizeL, ih]; omega
theorem gsize_le (t : Tm) : 0 ≤ t.gsize ∧ t.gsize ≤ t.size := by
  induction t using Tm.ind with
  | h k s n l ih =>
    have hl : 0 ≤ Tm.gsizeL l ∧ Tm.gsizeL l ≤ Tm.sizeL l := by
      clear k s n
      induction l with
      | nil => rw [Tm.gsizeL]; simp
      | cons x xs ihx =>
        have h1 := ih x (by simp)
        have h2 := ihx (fun t ht => ih t (by simp [ht]))
        rw [Tm.gsizeL, Tm.sizeL_cons]
        omega
    rw [Tm.gsize, Tm.size_mk]
    split <;> omega
theorem gsizeL_take (l : List Tm) (k : Nat) : 0 ≤ Tm.gsizeL (l.take k) ∧ Tm.gsizeL (l.take k) ≤ Tm.sizeL l := by
  have h : ∀ l : List Tm, 0 ≤ Tm.gsizeL l ∧ Tm.gsizeL l ≤ Tm.sizeL l := by
    intro l
    induction l with
    | nil => rw [Tm.gsizeL]; simp
    | cons x xs ihx =>
      have h1 := gsize_le x
      rw [Tm.gsizeL, Tm.sizeL_cons]
      omega
  have h1 := h (l.take k)
  have h2 : Tm.sizeL l = Tm.sizeL (l.take k) + Tm.sizeL (l.drop k) := by rw [← Tm.sizeL_append, List.take_append_drop]
  omega
theorem kids_mem {t u : Tm} (h : u ∈ t.kids) : u ∈ t.l := by
  unfold Tm.kids at h
  split at h
  · exact h
  · cases h
theorem kids_size (t : Tm) : Tm.sizeL t.kids < t.size := by
  cases t with
  | mk k s n l =>
    unfold Tm.kids
    rw [Tm.size_mk]
    split <;> simp
    omega
/-- What has been counted when k parts have. -/
def cnt (l : List Tm) (k : Nat) : Int := 1 + Tm.gsizeL (l.take k)
set_option maxHeartbeats 1000000 in
theorem term_Size (t : Tm) : ∀ (cs : List Value) (H : GH) (w : World), Rep H t cs → Agree H w → t.size ≤ LB →
    Calls Try.prog 102 #[.agg cs.toArray] w fun e w' => e = .returned (.int .i64 t.gsize) ∧ Below w.heap.size w w' := by
  induction t using Tm.ind with
  | h k s n l ih =>
    intro cs H w hR hA hsz
    have hg := Lib.hid (gsize_mk k s n l)
    have hks := kids_size (.mk k s n l)
    have hkm : ∀ u ∈ Tm.kids (.mk k s n l), u ∈ l := fun u hu => kids_mem hu
    unfold LB at hsz
    have hwi := Lib.hid (fun W => term_within (.mk k s n l) cs H W hR)
    generalize Tm.kids (.mk k s n l) = kids at hg hks hkm hwi
    generalize Tm.by_ (.mk k s n l) = by_ at hwi
    obtain ⟨a, cap, rfl, hk, hn, hs, hl⟩ := hR.open_
    simp only [Tm.k_mk, Tm.s_mk, Tm.n_mk, Tm.l_mk] at *
    go_enter Try.func102, Try.ntmps102
    go_wp2_with fail
    refine (hwi.out _).mono ?_
    rintro e w1 ⟨v, rfl, hT, hb1⟩
    have hb1 := (below_alloc _ _).trans (hb1.mono (below_alloc _ _).size)
    obtain ⟨va, vc, rfl, hlc, hvc⟩ := hT.form
    unfold maxLen at hvc
    have hlen := Tm.length_le_sizeL kids
    go_wp2_with fail
    go_loopw [3, 15] (fun m i wr => ∃ j : Nat, j ≤ kids.length ∧ i = .int .i64 j ∧ m = .int .i64 (cnt kids j) ∧ Below w.heap.size w wr) (fun _ i _ => kids.length - (intOf i).toNat)
    case atStart => exact ⟨0, Nat.zero_le _, rfl, rfl, hb1⟩
    case round =>
      obtain ⟨j, hj, rfl, rfl, hb⟩ := hrel
      by_cases hlt : j < kids.length
      · have hx : kids[j]? = some kids[j] := List.getElem?_eq_getElem hlt
        obtain ⟨b, o, cs', rfl, hcl, hR', hcell⟩ := hT.get hx
        have hA' := hA.below hb
        have hmem := hkm _ (List.getElem_mem hlt)
        have hszj := Tm.size_le_sizeL (List.getElem_mem hlt)
        have hcall := Lib.hid (fun W hW => ih kids[j] hmem cs' H W hR' (hA'.below hW) (by unfold LB; omega))
        have hstep : cnt kids (j + 1) = cnt kids j + kids[j].gsize := by
          unfold cnt
          rw [List.take_add_one, hx, gsizeL_append]
          show 1 + (Tm.gsizeL (kids.take j) + Tm.gsizeL [kids[j]]) = _
          rw [Tm.gsizeL, Tm.gsizeL]; omega
        have hc1 : 0 ≤ cnt kids j ∧ cnt kids j ≤ 2513169434920 := by have := gsizeL_take kids j; unfold cnt; omega
        have hc2 := gsize_le kids[j]
        obtain ⟨a1, cap1, rfl, -⟩ := hR'.open_
        have c0 := hA'.cell (hcell 0 _ rfl)
        have c1 := hA'.cell (hcell 1 _ rfl)
        have c2 := hA'.cell (hcell 2 _ rfl)
        have c3 := hA'.cell (hcell 3 _ rfl)
        simp only [Nat.add_zero, ← Nat.add_assoc] at c0 c1 c2 c3
        have HS := Lib.hid hstep
        obtain ⟨hc1a, hc1b⟩ := hc1
        obtain ⟨hc2a, hc2b⟩ := hc2
        have hc2c : kids[j].gsize ≤ 2513169434916 := by omega
        have hbl := World.block_lt_of_cell? wr _ c0
        clear hx hcell hstep hcl hc2b
        go_wp2_with fail
        refine (hcall.out _ (below_alloc _ _)).mono ?_
        rintro e w2 ⟨rfl, hb2⟩
        go_wp2_with fail
        go_roundw
        case rel => exact ⟨j + 1, by omega, by go_num, by rw [HS.out], hb.trans (((below_alloc _ _).trans (hb2.mono (below_alloc _ _).size)).mono hb.size)⟩
        case measure => simp [intOf]; omega
      · have hjl : j = kids.length := by omega
        have HJ := Lib.hid hjl
        clear hjl
        go_wp2_with fail
        go_ret
        refine ⟨?_, hb⟩
        rw [hg.out]
        have : cnt kids j = 1 + Tm.gsizeL kids := by unfold cnt; rw [List.take_of_length_le (by have := HJ.out; omega)]
        rw [← this]
        rfl
end Go.Proofs.Ytbdappbmlnpogaa
