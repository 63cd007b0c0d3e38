/- Package store in memory: full. -/
import Derived.Test.YtbdappbmlnpogaaHead
namespace Go.Proofs.Ytbdappbmlnpogaa
open Go Go.RowKit
set_option maxRecDepth 100000
def FullPost (fb : Nat) (H : GH) (w : World) (r : Tm × Int × Int) (e : Ending) (w' : World) : Prop :=
  ∃ H' cs', e = .returned (.tuple #[.agg cs'.toArray, .int .i64 r.2.1]) ∧ Ext (fun k => k = fb) H w H' w' ∧ Rep H' r.1 cs' ∧ w'.heap[fb]? = some (.cells #[.int .i64 r.2.2] 3 (0, 0))
/-- What full is asked, at a depth. -/
def FullAt (fb : Nat) (F : Nat → Prop) (s : Nat) (S : St) (M m : Nat) : Prop :=
  ∀ (t : Tm) (f B : Int) (cs : List Value) (H : GH) (w : World), f.toNat ≤ m → Agree H w → StAt H w F s S → Rep H t cs → t.valid = true → t.bnd B = true → S.Ok M B → t.size + f.toNat * M + M ≤ SB → B + f.toNat * SB + SB ≤ Tm.far → I64 f →
    w.heap[fb]? = some (.cells #[.int .i64 f] 3 (0, 0)) → H fb = none → ¬ F fb → (∀ k, F k → k < w.heap.size) →
    Calls Try.prog 34 #[.pointer (some ⟨s, 0, none⟩), .agg cs.toArray, .pointer (some ⟨fb, 0, none⟩)] w (FullPost fb H w (St.fullF S m t f))
/-- What holds at the head of the loop: so many kids are done. -/
def FullRel (fb : Nat) (F : Nat → Prop) (s : Nat) (S : St) (M m : Nat) (base : Nat) (H : GH) (w : World) (h : Tm) (a : Option Addr) (cap : Nat) (R : List Tm × Int × Int) (f1 B : Int) (v i : Value) (wr : World) : Prop :=
  ∃ (j : Nat) (Hc : GH) (acc : List Tm) (f' : Int), j ≤ h.l.length ∧ i = .int .i64 j ∧ acc.length = j ∧ ((h.k = 6 ∧ j = 0 ∧ f' = f1) ∨ (R = St.mapF (St.fullF S m) acc (h.l.drop j) f' ∧ (h.k = 6 → 0 < j))) ∧
    (∀ u ∈ h.l.drop j, u.valid = true ∧ u.bnd B = true) ∧ Tm.sizeL (h.l.drop j) + f'.toNat * M + M ≤ SB ∧ B + f'.toNat * SB + SB ≤ Tm.far ∧ 0 ≤ f' ∧ f'.toNat ≤ m ∧ I64 f' ∧
    Ext (fun k => k = fb) H w Hc wr ∧ Own Hc wr base 30 4 (Rep Hc) v (acc ++ h.l.drop j) ∧ wr.heap[w.heap.size]? = some (tbox h a cap) ∧ wr.heap[w.heap.size + 1]? = some zbox ∧ wr.heap[fb]? = some (.cells #[.int .i64 f'] 3 (0, 0)) ∧ StAt Hc wr F s S ∧ Hc w.heap.size = none ∧ Hc (w.heap.size + 1) = none ∧ Hc fb = none
set_option maxHeartbeats 8000000 in
theorem store_full_zero (fb : Nat) (F : Nat → Prop) (s : Nat) (S : St) (m : Nat) (t : Tm) (f : Int) (cs : List Value) (H : GH) (w : World) (hf : f ≤ 0) (hA : Agree H w) (hR : Rep H t cs) (hfb : w.heap[fb]? = some (.cells #[.int .i64 f] 3 (0, 0))) :
    Calls Try.prog 34 #[.pointer (some ⟨s, 0, none⟩), .agg cs.toArray, .pointer (some ⟨fb, 0, none⟩)] w (FullPost fb H w (St.fullF S m t f)) := by
  have ho := Lib.hid (show St.fullF S m t f = (Tm.zero, 80, f) by cases m with | zero => rfl | succ m => rw [St.fullF, if_pos hf])
  obtain ⟨a, cap, rfl, -, -, -, -⟩ := hR.open_
  obtain ⟨g0, g1⟩ := blk_cell hfb
  have g2 := cell_lt hfb
  have E1 := Lib.hid (((Ext.refl (O := fun k => k = fb) hA).alloc (tbox t a cap)).alloc zbox)
  have D := Lib.hid (show ((w.alloc (tbox t a cap)).alloc zbox).heap[fb]? = some (.cells #[.int .i64 f] 3 (0, 0)) from Below.blk (below_alloc _ _) (Below.blk (below_alloc _ _) hfb))
  clear hR
  go_enter Try.func34, Try.ntmps34
  go_wp2_with fail
  refine bodyPost_ret (v := .tuple #[.agg #[.int .i64 0, .string ⟨#[]⟩, .int .i64 0, .slice none 0 0], .int .i64 80]) (by simp [results, Try.results34, go_sem]) rfl ?_
  rw [ho.out]
  exact ⟨H, _, rfl, E1.out, rep_zero H, D.out⟩
theorem setRow4 (w : World) (g o : Nat) (a b c d : Value) : setRow w g o [a, b, c, d] = (((w.setCell ⟨g, o, none⟩ a).setCell ⟨g, o + 1, none⟩ b).setCell ⟨g, o + 2, none⟩ c).setCell ⟨g, o + 3, none⟩ d := rfl
theorem set_mid {α : Type} (acc : List α) (x y : α) (ts : List α) (j : Nat) (h : acc.length = j) : (acc ++ x :: ts).set j y = (acc ++ [y]) ++ ts := by
  subst h
  rw [List.set_append_right _ _ (Nat.le_refl _)]
  simp
/-- The store is not touched by a row of another. -/
theorem StAt.heapF {H : GH} {w : World} {F : Nat → Prop} {s : Nat} {S : St} (h : StAt H w F s S) (hA : Agree H w) {g : Nat} (hg : H g = none) (hF : ¬ F g) (v0 v1 v2 v3 : Value) (o : Nat) : StAt H (setRow w g o [v0, v1, v2, v3]) F s S :=
  h.ext (Ext.setRow (O := fun k => k = g) hg (fun _ => rfl) _ _ _ (Ext.refl hA)) (fun k hk hf => by subst hk; exact hF hf)
set_option maxHeartbeats 8000000 in
theorem store_full_succ (fb : Nat) (F : Nat → Prop) (s : Nat) (S : St) (M m : Nat) (ih : FullAt fb F s S M m) : FullAt fb F s S M (m + 1) := by
  intro t f B cs H w hfm hA hS hR hv hb hok hsz hB hf hfb hfH hfF hFl
  by_cases hf0 : f ≤ 0
  · exact store_full_zero fb F s S (m + 1) t f cs H w hf0 hA hR hfb
  have hM : f.toNat * M = (f - 1).toNat * M + M := by rw [show f.toNat = (f - 1).toNat + 1 by omega, Nat.succ_mul]
  have hSB : (f.toNat : Int) * SB = ((f - 1).toNat : Int) * SB + SB := by
    rw [show f.toNat = (f - 1).toNat + 1 by omega]
    push_cast
    rw [Int.add_mul]
    omega
  have hf64 := hf
  unfold I64 at hf64
  obtain ⟨hfa, hfc⟩ := hf64
  have hw1 := IntWalk.i64_in (f - 1) (by omega)
  obtain ⟨g0, g1⟩ := blk_cell hfb
  have g2 := cell_lt hfb
  have HR := Lib.hid hR
  obtain ⟨a, cap, rfl, -, -, -, -⟩ := hR.open_
  have T0 : Ext (fun k => k = fb) H w H (w.setCell ⟨fb, 0, none⟩ (.int .i64 (f - 1))) := (Ext.refl (O := fun k => k = fb) hA).setCell (p := ⟨fb, 0, none⟩) hfH (fun _ => rfl) _
  have hsz0 : (w.setCell ⟨fb, 0, none⟩ (.int .i64 (f - 1))).heap.size = w.heap.size := by simp [World.setCell]
  have E0 := Lib.hid ((T0.alloc (tbox t a cap)).alloc zbox)
  have ST0 := hS.ext E0.out (fun k hk hF => by subst hk; exact hfF hF)
  have B0 : (((w.setCell ⟨fb, 0, none⟩ (.int .i64 (f - 1))).alloc (tbox t a cap)).alloc zbox).heap[w.heap.size]? = some (tbox t a cap) := Below.blk (below_alloc _ _) (heap_alloc_at _ _ _ hsz0.symm)
  have B1 : (((w.setCell ⟨fb, 0, none⟩ (.int .i64 (f - 1))).alloc (tbox t a cap)).alloc zbox).heap[w.heap.size + 1]? = some zbox := heap_alloc_at _ _ _ (by simp [hsz0])
  have B2 : (((w.setCell ⟨fb, 0, none⟩ (.int .i64 (f - 1))).alloc (tbox t a cap)).alloc zbox).heap[fb]? = some (.cells #[.int .i64 (f - 1)] 3 (0, 0)) := Below.blk (below_alloc _ _) (Below.blk (below_alloc _ _) (blk_set hfb))
  have B0 := Lib.hid B0
  have B1 := Lib.hid B1
  have B2 := Lib.hid B2
  have n0 := hA.free (Nat.le_refl w.heap.size)
  have n1 : H (w.heap.size + 1) = none := hA.free (by omega)
  have n2 := hfH
  have hhead := Lib.hid (store_head fb H _ s S M B t (f - 1) _ E0.out.agree ST0 HR.out hv hb hok (by omega) (by omega) (by unfold I64; omega) B2.out hfH hfF)
  have HOK := Lib.hid (fun h0 => St.head_ok (f := f - 1) hok hv hb (by omega) (by omega) h0)
  have hful := Lib.hid (show St.fullF S (m + 1) t f = _ from (by rw [St.fullF, if_neg hf0]))
  have HST0 := Lib.hid ST0
  have HFF := Lib.hid hfF
  have HFL := Lib.hid hFl
  have HOKS := Lib.hid hok
  have HSZ := Lib.hid (show t.size + (f - 1).toNat * M + M ≤ SB by omega)
  have HBB := Lib.hid (show B + (f - 1).toNat * SB + SB ≤ Tm.far by omega)
  have HM := Lib.hid (show (f - 1).toNat ≤ m by omega)
  clear hR hS hv hb hok hsz hB hf hfb hfH hfF hFl hM hSB T0 ST0 hA hfm
  generalize hHD : S.head t (f - 1) = hd at *
  obtain ⟨u, er, f1⟩ := hd
  dsimp only at hful HOK
  have HHD := Lib.hid hHD
  clear hHD
  go_enter Try.func34, Try.ntmps34
  go_wp2_with fail
  refine hhead.out.mono ?_
  unfold HeadPost
  rw [HHD.out]
  rintro e w1 ⟨H1, ucs, rfl, X1, R1, C1⟩
  dsimp only at R1 C1
  have HR1 := Lib.hid R1
  have HX1 := Lib.hid X1
  obtain ⟨ua, uc, rfl, -, -, -, hTu⟩ := R1.open_
  have HTU := Lib.hid hTu
  have z0 : w.heap.size < (((w.setCell ⟨fb, 0, none⟩ (.int .i64 (f - 1))).alloc (tbox t a cap)).alloc zbox).heap.size := cell_lt B0.out
  have z1 : w.heap.size + 1 < (((w.setCell ⟨fb, 0, none⟩ (.int .i64 (f - 1))).alloc (tbox t a cap)).alloc zbox).heap.size := cell_lt B1.out
  have z2 : fb < (((w.setCell ⟨fb, 0, none⟩ (.int .i64 (f - 1))).alloc (tbox t a cap)).alloc zbox).heap.size := cell_lt B2.out
  have D0 := Lib.hid ((X1.block w.heap.size z0 (by omega)).trans B0.out)
  have D1 := Lib.hid ((X1.block (w.heap.size + 1) z1 (by omega)).trans B1.out)
  have D2 := Lib.hid C1
  have k0 := (X1.old _ z0).trans n0
  have k1 := (X1.old _ z1).trans n1
  have k2 := (X1.old _ z2).trans n2
  have ST1E := Lib.hid X1.agree
  have ST1 := Lib.hid (HST0.out.ext X1 (fun k hk hF => by subst hk; exact HFF.out hF))
  have E1 := Lib.hid (E0.out.trans X1 (fun k hk _ => hk))
  clear hhead X1 C1 R1 z0 z1 z2 n0 n1 n2 g0 g1 hTu
  obtain ⟨p0, p1, p2, p3, p4, p5, p6, p7, p8⟩ := box4 D0.out
  obtain ⟨q0, q1, q2, q3, q4, q5, q6, q7, q8⟩ := box4 D1.out
  have E2 := Lib.hid (E1.out.store4 k0 (Nat.le_refl _) (.int .i64 u.k) (.string u.s) (.int .i64 u.n) (.slice ua u.l.length uc))
  have F0 := Lib.hid (blk_set4 (.int .i64 u.k) (.string u.s) (.int .i64 u.n) (.slice ua u.l.length uc) D0.out)
  have F1 := Lib.hid ((blk_far4 (k := w.heap.size + 1) (b := w.heap.size) (.int .i64 u.k) (.string u.s) (.int .i64 u.n) (.slice ua u.l.length uc) (by omega)).trans D1.out)
  have F2 := Lib.hid ((blk_far4 (k := fb) (b := w.heap.size) (.int .i64 u.k) (.string u.s) (.int .i64 u.n) (.slice ua u.l.length uc) (by omega)).trans D2.out)
  by_cases her : er = 0
  · subst her
    rw [if_neg (by simp)] at hful
    have hk := HOK.out rfl
    have hkv := hk.v
    have hks := hk.sz
    have hkb := hk.b
    have hkl := hk.le
    have hkn := hk.nn (by omega)
    rw [HHD.out] at hkv hks hkb hkl hkn
    dsimp only at hkv hks hkb hkl hkn
    have hlu : u.l.length < u.size := by cases u with | mk k s n l => exact Tm.length_lt k s n l
    have hslu : Tm.sizeL u.l < u.size := by cases u with | mk k s n l => rw [Tm.size_mk]; simp only [Tm.l_mk]; omega
    have hz := HSZ.out
    have hsb := St.toNat_sub_mul (f - 1).toNat f1.toNat (by omega) SB
    have hbb := HBB.out
    have hM1 := Nat.zero_le (f1.toNat * M)
    have hss : SB = 1073741824 := rfl
    have hcl := Lib.hid (slices_Clone H1 ((((w1.setCell ⟨w.heap.size, 0, none⟩ (.int .i64 u.k)).setCell ⟨w.heap.size, 1, none⟩ (.string u.s)).setCell ⟨w.heap.size, 2, none⟩ (.int .i64 u.n)).setCell ⟨w.heap.size, 3, none⟩ (.slice ua u.l.length uc)) E2.out.agree _ u.l HTU.out (by omega))
    have hkids : ∀ x ∈ u.l, x.valid = true ∧ x.bnd (B + ((f - 1).toNat - f1.toNat : Nat) * SB) = true := by
      intro x hx
      cases u with
      | mk k s n l => exact ⟨((Tm.valid_iff ..).1 hkv).2 x hx, ((Tm.bnd_iff ..).1 hkb).2 x hx⟩
    have hu6 : u.k = 6 → 2 ≤ u.l.length := by
      intro h6
      cases u with
      | mk k s n l => simp only [Tm.k_mk] at h6; subst h6; exact (Tm.ok1_app.1 ((Tm.valid_iff ..).1 hkv).1).2.2.1
    have hB' : B + ((f - 1).toNat - f1.toNat : Nat) * SB + f1.toNat * SB + SB ≤ Tm.far := by omega
    have hok' : S.Ok M (B + ((f - 1).toNat - f1.toNat : Nat) * SB) := HOKS.out.mono (by have : (0 : Int) ≤ ((f - 1).toNat - f1.toNat : Nat) * SB := Int.mul_nonneg (by omega) (by omega); omega)
    generalize B + ((f - 1).toNat - f1.toNat : Nat) * SB = B' at hkids hB' hok'
    have HGOOD := Lib.hid (fun n (hn : n ≤ m) (hb : B' + n * SB ≤ Tm.far) => St.full_fit S M m B' n hn hok' hb)
    have HK := Lib.hid hkids
    have HU6 := Lib.hid hu6
    have HBf := Lib.hid hB'
    have HSL := Lib.hid (show Tm.sizeL u.l + f1.toNat * M + M ≤ SB by omega)
    have HF1 := Lib.hid (show 0 ≤ f1 ∧ f1.toNat ≤ m ∧ I64 f1 by have := HM.out; unfold I64; omega)
    have HLU := Lib.hid (show u.l.length ≤ 1073741824 by omega)
    have HFD := Lib.hid (blk_cells F0.out 3).1
    have hsz2 : ((((w1.setCell ⟨w.heap.size, 0, none⟩ (.int .i64 u.k)).setCell ⟨w.heap.size, 1, none⟩ (.string u.s)).setCell ⟨w.heap.size, 2, none⟩ (.int .i64 u.n)).setCell ⟨w.heap.size, 3, none⟩ (.slice ua u.l.length uc)).heap.size = w1.heap.size := size_set4 _ _ _ _ _ _
    have HS2 := Lib.hid hsz2
    have hok'' := Lib.hid hok'
    clear hk hkv hks hkb hkl hkn hlu hslu hz hsb hbb hM1 hss hkids hu6 hB' hok' hsz2
    have hp0 := Lib.hid p0
    have HB1 := Lib.hid (show w.heap.size + 1 < w1.heap.size ∧ fb < w1.heap.size from ⟨q0, cell_lt D2.out⟩)
    go_wp2_with fail
    refine hcl.out.mono ?_
    rintro e w3 ⟨v, rfl, own3, hb3⟩
    rw [HS2.out] at own3
    have G0 := Lib.hid (Below.blk hb3 F0.out)
    have G1 := Lib.hid (Below.blk hb3 F1.out)
    have G2 := Lib.hid (Below.blk hb3 F2.out)
    have E3 := Lib.hid (E2.out.then_below hb3)
    have ST3 : StAt H1 w3 F s S := by
      have T : Ext (fun k => k = w.heap.size) H1 w1 H1 ((((w1.setCell ⟨w.heap.size, 0, none⟩ (.int .i64 u.k)).setCell ⟨w.heap.size, 1, none⟩ (.string u.s)).setCell ⟨w.heap.size, 2, none⟩ (.int .i64 u.n)).setCell ⟨w.heap.size, 3, none⟩ (.slice ua u.l.length uc)) := ((((Ext.refl (O := fun k => k = w.heap.size) ST1E.out).setCell (p := ⟨w.heap.size, 0, none⟩) k0 (fun _ => rfl) _).setCell (p := ⟨w.heap.size, 1, none⟩) k0 (fun _ => rfl) _).setCell (p := ⟨w.heap.size, 2, none⟩) k0 (fun _ => rfl) _).setCell (p := ⟨w.heap.size, 3, none⟩) k0 (fun _ => rfl) _
      exact (ST1.out.ext T (fun k hk hF => by subst hk; have := HFL.out _ hF; omega)).below T.agree hb3
    obtain ⟨va, vc, rfl, hvl, hvm⟩ := own3.form
    have HOWN := Lib.hid own3
    clear p0 p1 p2 p3 p4 p5 p6 p7 p8 q0 q1 q2 q3 q4 q5 q6 q7 q8 hcl own3
    go_wp2_with fail
    have hN64 : (u.l.length : Int) ≤ 1073741824 := by have := HLU.out; omega
    go_loopw [37] (fun i wr => FullRel fb F s S M m w1.heap.size H w u ua uc (St.kidsF (St.fullF S m) u f1) f1 B' (.slice va u.l.length vc) i wr) (fun i _ => u.l.length - (intOf i).toNat)
    case atStart =>
      obtain ⟨y1, y2, y3⟩ := HF1.out
      refine ⟨0, H1, [], f1, Nat.zero_le _, rfl, rfl, ?_, by simpa using HK.out, by simpa using HSL.out, HBf.out, y1, y2, y3, E3.out, by simpa using HOWN.out, G0.out, G1.out, G2.out, ST3, k0, k1, k2⟩
      by_cases h6 : u.k = 6
      · exact .inl ⟨h6, rfl, rfl⟩
      · exact .inr ⟨by unfold St.kidsF; rw [if_neg h6]; rfl, fun h => absurd h h6⟩
    case round =>
      obtain ⟨j, Hc, acc, f', hj, rfl, ha, hR, hK, hZ, hB2, hf0', hfm', hf64', EC, own, C0, C1, C2, SC, n0, n1, n2⟩ := hrel
      have HSC := Lib.hid SC
      have HEC := Lib.hid EC
      have HC0 := Lib.hid C0
      have HC1 := Lib.hid C1
      have HC2 := Lib.hid C2
      have HHR := Lib.hid hR
      obtain ⟨p0, p1, p2, p3, p4, p5, p6, p7, p8⟩ := box4 C0
      obtain ⟨q0, q1, q2, q3, q4, q5, q6, q7, q8⟩ := box4 C1
      have g2 := cell_lt C2
      have HWR := Lib.hid EC.size
      by_cases hlt : j < u.l.length
      · obtain ⟨x, hx⟩ : ∃ x, u.l[j]? = some x := ⟨_, List.getElem?_eq_getElem hlt⟩
        have hdr : u.l.drop j = x :: u.l.drop (j + 1) := by
          rw [List.drop_eq_getElem_cons hlt]
          rw [List.getElem?_eq_getElem hlt] at hx
          injection hx with hx
          rw [hx]
        by_cases h60 : u.k = 6 ∧ j = 0
        · obtain ⟨h6, rfl⟩ := h60
          have hff : f' = f1 := by
            rcases hR with h | h
            · exact h.2.2
            · exact absurd (h.2 h6) (by omega)
          have hacc : acc = [] := List.eq_nil_of_length_eq_zero ha
          subst hacc; subst hff
          have b6 : (u.k == 6) = true := beq_iff_eq.2 h6
          have HDR := Lib.hid hdr
          have HKK := Lib.hid hK
          have HZZ := Lib.hid hZ
          have HOW := Lib.hid own
          clear hR hdr hK hZ own SC EC C0 C1 C2 hx
          go_wp2_with fail
          go_roundw
          case rel =>
            have e1 : u.l.take 1 ++ u.l.drop 1 = [] ++ u.l.drop 0 := by rw [List.take_append_drop]; rfl
            refine ⟨1, Hc, u.l.take 1, f', by omega, by go_num, by rw [List.length_take]; omega, .inr ⟨by unfold St.kidsF; rw [if_pos h6], fun _ => by omega⟩, fun y hy => HKK.out y (by rw [HDR.out]; exact List.mem_cons_of_mem _ hy), ?_, hB2, hf0', hfm', hf64', HEC.out, by rw [e1]; exact HOW.out, HC0.out, HC1.out, HC2.out, HSC.out, n0, n1, n2⟩
            have := HZZ.out
            rw [HDR.out, Tm.sizeL_cons] at this
            simp only [Nat.zero_add] at this
            omega
          case measure => simp [intOf]; omega
        · have hR2 : St.kidsF (St.fullF S m) u f1 = St.mapF (St.fullF S m) acc (u.l.drop j) f' := by
            rcases hR with h | h
            · exact absurd ⟨h.1, h.2.1⟩ h60
            · exact h.1
          have hb6 : (u.k == 6) = false ∨ ((u.k == 6) = true ∧ ((j : Int) == 0) = false ∧ ¬ j = 0) := by
            by_cases h6 : u.k = 6
            · exact .inr ⟨beq_iff_eq.2 h6, by rw [beq_eq_false_iff_ne]; have := fun e => h60 ⟨h6, e⟩; omega, fun e => h60 ⟨h6, e⟩⟩
            · exact .inl (beq_eq_false_iff_ne.2 h6)
          rw [hdr, St.mapF] at hR2
          rw [hdr, Tm.sizeL_cons] at hZ
          have hx0 := hK x (by rw [hdr]; simp)
          have hgx : (acc ++ u.l.drop j)[j]? = some x := by rw [hdr, ← ha, List.getElem?_append_right (Nat.le_refl _)]; simp
          obtain ⟨g, gc, xcs, hv, hgb, hRx, hcell, hfz, hgl, hgm, hgw⟩ := own.get (fun _ _ h => h.len) hgx
          injection hv with hv1 hv2 hv3
          subst hv1; subst hv3
          have HV2 := Lib.hid hv2
          clear hv2
          have hcall := Lib.hid (ih x f' B' xcs Hc wr hfm' EC.agree SC hRx hx0.1 hx0.2 hok''.out (by omega) hB2 hf64' C2 n2 HFF.out (fun k hk => Nat.lt_of_lt_of_le (HFL.out k hk) EC.size))
          have HG := Lib.hid (fun h0 => HGOOD.out f'.toNat hfm' (by omega) x f' (Nat.le_refl _) hx0.1 hx0.2 (by omega) h0)
          obtain ⟨xa, xc, rfl, -, -, -, -⟩ := hRx.open_
          have d0 := hcell 0 _ rfl
          have d1 := hcell 1 _ rfl
          have d2 := hcell 2 _ rfl
          have d3 := hcell 3 _ rfl
          simp only [Nat.add_zero] at d0
          have HR2 := Lib.hid hR2
          have HZZ := Lib.hid hZ
          have HDR := Lib.hid hdr
          have HKK := Lib.hid hK
          have HOW := Lib.hid own
          clear hR hR2 hdr hK hZ own SC EC C0 C1 C2 hx hgx h60 hx0 hcell hRx hfz
          have HB := Lib.hid (show fb < g ∧ w.heap.size + 1 < g ∧ w.heap.size + 1 < w1.heap.size from ⟨by have := HB1.out; omega, by have := HB1.out; omega, HB1.out.1⟩)
          have HGF := Lib.hid (show ¬ F g from fun h => by have := HFL.out g h; have := HB.out; omega)
          rcases hb6 with b6 | ⟨b6, bj, bj'⟩
          · skip
            go_wp2_with fail
            refine hcall.out.mono ?_
            unfold FullPost
            generalize hgr : St.fullF S m x f' = r at *
            obtain ⟨r1, er, f2⟩ := r
            dsimp only at HG HR2
            rintro e w4 ⟨H4, rcs, rfl, X4, R4, C4⟩
            dsimp only at R4 C4
            have own4 := (HOW.out.ext X4 (fun k hk e => by have := (HOW.out.lt k hk).1; have := HB.out; omega) (fun _ _ h => h.mono X4.sub))
            have HR4 := Lib.hid R4
            obtain ⟨ra, rc, rfl, -, -, -, -⟩ := R4.open_
            have hgx4 : (acc ++ u.l.drop j)[j]? = some x := by rw [HDR.out, ← ha, List.getElem?_append_right (Nat.le_refl _)]; simp
            obtain ⟨g', gc', ycs, hv', -, hRy, hcell4, hfz4, -, -, hgw4⟩ := own4.get (fun _ _ h => h.len) hgx4
            injection hv' with hv1' hv2' hv3'
            injection hv1' with hv1'
            injection hv1' with hv1'
            subst hv1'
            clear hv2' hv3'
            obtain ⟨ya, yc, rfl, -, -, -, -⟩ := hRy.open_
            have D0 := Lib.hid ((X4.block w.heap.size p0 (by omega)).trans HC0.out)
            have D1 := Lib.hid ((X4.block (w.heap.size + 1) q0 (by omega)).trans HC1.out)
            have D2 := Lib.hid C4
            have m0 := (X4.old _ p0).trans n0
            have m1 := (X4.old _ q0).trans n1
            have m2 := (X4.old _ g2).trans n2
            have mg : H4 g = none := own4.free g rfl
            have SC4 := Lib.hid (HSC.out.ext X4 (fun k hk hF => by subst hk; exact HFF.out hF))
            have E4 := Lib.hid (HEC.out.trans X4 (fun k hk _ => hk))
            have OW4 := Lib.hid own4
            have HX4 := Lib.hid X4.agree
            clear p0 p1 p2 p3 p4 p5 p6 p7 p8 q0 q1 q2 q3 q4 q5 q6 q7 q8 g2 d0 d1 d2 d3 hcall X4 R4 C4 own4 hgx4 n0 n1 n2
            have y0 := hcell4 0 _ rfl
            have y1 := hcell4 1 _ rfl
            have y2 := hcell4 2 _ rfl
            have y3 := hcell4 3 _ rfl
            simp only [Nat.add_zero] at y0
            have x0 := hfz4 (j * 4)
            have x1 := hfz4 (j * 4 + 1)
            have x2 := hfz4 (j * 4 + 2)
            have x3 := hfz4 (j * 4 + 3)
            have O5 : Own H4 ((((w4.setCell ⟨g, j * 4, none⟩ (.int .i64 r1.k)).setCell ⟨g, j * 4 + 1, none⟩ (.string r1.s)).setCell ⟨g, j * 4 + 2, none⟩ (.int .i64 r1.n)).setCell ⟨g, j * 4 + 3, none⟩ (.slice ra r1.l.length rc)) w1.heap.size 30 4 (Rep H4) (.slice (some ⟨g, 0, none⟩) u.l.length vc) ((acc ++ [r1]) ++ u.l.drop (j + 1)) := by
              have := OW4.out.set rfl (i := j) (by rw [List.length_append, ha]; rw [HDR.out]; simp) (y := r1) (vs := [.int .i64 r1.k, .string r1.s, .int .i64 r1.n, .slice ra r1.l.length rc]) rfl HR4.out
              rw [setRow4] at this
              rw [← set_mid acc x r1 (u.l.drop (j + 1)) j ha, ← HDR.out]
              exact this
            have T5 : Ext (fun k => k = fb) H w H4 ((((w4.setCell ⟨g, j * 4, none⟩ (.int .i64 r1.k)).setCell ⟨g, j * 4 + 1, none⟩ (.string r1.s)).setCell ⟨g, j * 4 + 2, none⟩ (.int .i64 r1.n)).setCell ⟨g, j * 4 + 3, none⟩ (.slice ra r1.l.length rc)) := (((E4.out.setCell (p := ⟨g, j * 4, none⟩) mg (fun h => absurd h (by have := HB.out; simp; omega)) _).setCell (p := ⟨g, j * 4 + 1, none⟩) mg (fun h => absurd h (by have := HB.out; simp; omega)) _).setCell (p := ⟨g, j * 4 + 2, none⟩) mg (fun h => absurd h (by have := HB.out; simp; omega)) _).setCell (p := ⟨g, j * 4 + 3, none⟩) mg (fun h => absurd h (by have := HB.out; simp; omega)) _
            have far5 : ∀ k, k ≠ g → ((((w4.setCell ⟨g, j * 4, none⟩ (.int .i64 r1.k)).setCell ⟨g, j * 4 + 1, none⟩ (.string r1.s)).setCell ⟨g, j * 4 + 2, none⟩ (.int .i64 r1.n)).setCell ⟨g, j * 4 + 3, none⟩ (.slice ra r1.l.length rc)).heap[k]? = w4.heap[k]? := fun k hk => by
              have := setRow_far (g := g) hk [.int .i64 r1.k, .string r1.s, .int .i64 r1.n, .slice ra r1.l.length rc] w4 (j * 4)
              rw [setRow4] at this
              exact this
            have HO5 := Lib.hid O5
            have HT5 := Lib.hid T5
            have G0 := Lib.hid ((far5 w.heap.size (by have := HB.out; omega)).trans D0.out)
            have G1 := Lib.hid ((far5 (w.heap.size + 1) (by have := HB.out; omega)).trans D1.out)
            have G2 := Lib.hid ((far5 fb (by have := HB.out; omega)).trans D2.out)
            clear O5 T5 far5
            obtain ⟨q0, q1, q2, q3, q4, q5, q6, q7, q8⟩ := box4 D1.out
            by_cases her : er = 0
            · subst her
              rw [if_neg (by simp)] at HR2
              obtain ⟨a1, a2, a3, a4, a5⟩ := HG.out rfl
              have hmul := Nat.mul_le_mul_right M (show f2.toNat ≤ f'.toNat by omega)
              have hmul2 : (f2.toNat : Int) * SB ≤ f'.toNat * SB := Int.mul_le_mul_of_nonneg_right (by omega) (by omega)
              have BU1 := Lib.hid (show Tm.sizeL (u.l.drop (j + 1)) + f2.toNat * M + M ≤ SB by have := HZZ.out; omega)
              have BU2 := Lib.hid (show B' + f2.toNat * SB + SB ≤ Tm.far by omega)
              have BU3 := Lib.hid (show 0 ≤ f2 ∧ f2.toNat ≤ m ∧ I64 f2 by unfold I64 at hf64' ⊢; omega)
              clear a1 a2 a3 a4 a5 hmul hmul2
              go_wp2_with fail
              go_roundw
              case rel =>
                have SC5 := ((SC4.out).heapF (F := F) HX4.out mg HGF.out (.int .i64 r1.k) (.string r1.s) (.int .i64 r1.n) (.slice ra r1.l.length rc) (j * 4))
                rw [setRow4] at SC5
                exact ⟨j + 1, H4, acc ++ [r1], f2, by omega, by go_num, by simp [ha], .inr ⟨HR2.out, fun _ => by omega⟩, fun y hy => HKK.out y (by rw [HDR.out]; exact List.mem_cons_of_mem _ hy), BU1.out, BU2.out, BU3.out.1, BU3.out.2.1, BU3.out.2.2, HT5.out, HO5.out, G0.out, G1.out, G2.out, SC5, m0, m1, m2⟩
              case measure => simp [intOf]; omega
            · rw [if_pos her] at HR2
              have her' : (er != 0) = true := by rw [bne_iff_ne]; exact her
              have hout : Hid (St.fullF S (m + 1) t f = (Tm.zero, er, f2)) := Lib.hid (by rw [hful.out, HR2.out, if_pos her])
              have q0' : w.heap.size + 1 ≠ g := by have := HB.out; omega
              obtain ⟨q0, q1, q2, q3, q4, q5, q6, q7, q8⟩ := box4 G1.out
              have E5 := Lib.hid (HT5.out.store4 m1 (by omega) (.int .i64 0) (.string ⟨#[]⟩) (.int .i64 0) (.slice none 0 0))
              have G2' := Lib.hid ((blk_far4 (k := fb) (b := w.heap.size + 1) (.int .i64 0) (.string ⟨#[]⟩) (.int .i64 0) (.slice none 0 0) (by omega)).trans G2.out)
              go_wp2_with fail
              refine bodyPost_ret (v := .tuple #[.agg #[.int .i64 0, .string ⟨#[]⟩, .int .i64 0, .slice none 0 0], .int .i64 er]) (by simp [results, Try.results34, go_sem, q0, q1, q2, q3, q4]) rfl ?_
              rw [hout.out]
              exact ⟨H4, _, rfl, E5.out, rep_zero H4, G2'.out⟩
          · skip
            go_wp2_with fail
            refine hcall.out.mono ?_
            unfold FullPost
            generalize hgr : St.fullF S m x f' = r at *
            obtain ⟨r1, er, f2⟩ := r
            dsimp only at HG HR2
            rintro e w4 ⟨H4, rcs, rfl, X4, R4, C4⟩
            dsimp only at R4 C4
            have own4 := (HOW.out.ext X4 (fun k hk e => by have := (HOW.out.lt k hk).1; have := HB.out; omega) (fun _ _ h => h.mono X4.sub))
            have HR4 := Lib.hid R4
            obtain ⟨ra, rc, rfl, -, -, -, -⟩ := R4.open_
            have hgx4 : (acc ++ u.l.drop j)[j]? = some x := by rw [HDR.out, ← ha, List.getElem?_append_right (Nat.le_refl _)]; simp
            obtain ⟨g', gc', ycs, hv', -, hRy, hcell4, hfz4, -, -, hgw4⟩ := own4.get (fun _ _ h => h.len) hgx4
            injection hv' with hv1' hv2' hv3'
            injection hv1' with hv1'
            injection hv1' with hv1'
            subst hv1'
            clear hv2' hv3'
            obtain ⟨ya, yc, rfl, -, -, -, -⟩ := hRy.open_
            have D0 := Lib.hid ((X4.block w.heap.size p0 (by omega)).trans HC0.out)
            have D1 := Lib.hid ((X4.block (w.heap.size + 1) q0 (by omega)).trans HC1.out)
            have D2 := Lib.hid C4
            have m0 := (X4.old _ p0).trans n0
            have m1 := (X4.old _ q0).trans n1
            have m2 := (X4.old _ g2).trans n2
            have mg : H4 g = none := own4.free g rfl
            have SC4 := Lib.hid (HSC.out.ext X4 (fun k hk hF => by subst hk; exact HFF.out hF))
            have E4 := Lib.hid (HEC.out.trans X4 (fun k hk _ => hk))
            have OW4 := Lib.hid own4
            have HX4 := Lib.hid X4.agree
            clear p0 p1 p2 p3 p4 p5 p6 p7 p8 q0 q1 q2 q3 q4 q5 q6 q7 q8 g2 d0 d1 d2 d3 hcall X4 R4 C4 own4 hgx4 n0 n1 n2
            have y0 := hcell4 0 _ rfl
            have y1 := hcell4 1 _ rfl
            have y2 := hcell4 2 _ rfl
            have y3 := hcell4 3 _ rfl
            simp only [Nat.add_zero] at y0
            have x0 := hfz4 (j * 4)
            have x1 := hfz4 (j * 4 + 1)
            have x2 := hfz4 (j * 4 + 2)
            have x3 := hfz4 (j * 4 + 3)
            have O5 : Own H4 ((((w4.setCell ⟨g, j * 4, none⟩ (.int .i64 r1.k)).setCell ⟨g, j * 4 + 1, none⟩ (.string r1.s)).setCell ⟨g, j * 4 + 2, none⟩ (.int .i64 r1.n)).setCell ⟨g, j * 4 + 3, none⟩ (.slice ra r1.l.length rc)) w1.heap.size 30 4 (Rep H4) (.slice (some ⟨g, 0, none⟩) u.l.length vc) ((acc ++ [r1]) ++ u.l.drop (j + 1)) := by
              have := OW4.out.set rfl (i := j) (by rw [List.length_append, ha]; rw [HDR.out]; simp) (y := r1) (vs := [.int .i64 r1.k, .string r1.s, .int .i64 r1.n, .slice ra r1.l.length rc]) rfl HR4.out
              rw [setRow4] at this
              rw [← set_mid acc x r1 (u.l.drop (j + 1)) j ha, ← HDR.out]
              exact this
            have T5 : Ext (fun k => k = fb) H w H4 ((((w4.setCell ⟨g, j * 4, none⟩ (.int .i64 r1.k)).setCell ⟨g, j * 4 + 1, none⟩ (.string r1.s)).setCell ⟨g, j * 4 + 2, none⟩ (.int .i64 r1.n)).setCell ⟨g, j * 4 + 3, none⟩ (.slice ra r1.l.length rc)) := (((E4.out.setCell (p := ⟨g, j * 4, none⟩) mg (fun h => absurd h (by have := HB.out; simp; omega)) _).setCell (p := ⟨g, j * 4 + 1, none⟩) mg (fun h => absurd h (by have := HB.out; simp; omega)) _).setCell (p := ⟨g, j * 4 + 2, none⟩) mg (fun h => absurd h (by have := HB.out; simp; omega)) _).setCell (p := ⟨g, j * 4 + 3, none⟩) mg (fun h => absurd h (by have := HB.out; simp; omega)) _
            have far5 : ∀ k, k ≠ g → ((((w4.setCell ⟨g, j * 4, none⟩ (.int .i64 r1.k)).setCell ⟨g, j * 4 + 1, none⟩ (.string r1.s)).setCell ⟨g, j * 4 + 2, none⟩ (.int .i64 r1.n)).setCell ⟨g, j * 4 + 3, none⟩ (.slice ra r1.l.length rc)).heap[k]? = w4.heap[k]? := fun k hk => by
              have := setRow_far (g := g) hk [.int .i64 r1.k, .string r1.s, .int .i64 r1.n, .slice ra r1.l.length rc] w4 (j * 4)
              rw [setRow4] at this
              exact this
            have HO5 := Lib.hid O5
            have HT5 := Lib.hid T5
            have G0 := Lib.hid ((far5 w.heap.size (by have := HB.out; omega)).trans D0.out)
            have G1 := Lib.hid ((far5 (w.heap.size + 1) (by have := HB.out; omega)).trans D1.out)
            have G2 := Lib.hid ((far5 fb (by have := HB.out; omega)).trans D2.out)
            clear O5 T5 far5
            obtain ⟨q0, q1, q2, q3, q4, q5, q6, q7, q8⟩ := box4 D1.out
            by_cases her : er = 0
            · subst her
              rw [if_neg (by simp)] at HR2
              obtain ⟨a1, a2, a3, a4, a5⟩ := HG.out rfl
              have hmul := Nat.mul_le_mul_right M (show f2.toNat ≤ f'.toNat by omega)
              have hmul2 : (f2.toNat : Int) * SB ≤ f'.toNat * SB := Int.mul_le_mul_of_nonneg_right (by omega) (by omega)
              have BU1 := Lib.hid (show Tm.sizeL (u.l.drop (j + 1)) + f2.toNat * M + M ≤ SB by have := HZZ.out; omega)
              have BU2 := Lib.hid (show B' + f2.toNat * SB + SB ≤ Tm.far by omega)
              have BU3 := Lib.hid (show 0 ≤ f2 ∧ f2.toNat ≤ m ∧ I64 f2 by unfold I64 at hf64' ⊢; omega)
              clear a1 a2 a3 a4 a5 hmul hmul2
              go_wp2_with fail
              go_roundw
              case rel =>
                have SC5 := ((SC4.out).heapF (F := F) HX4.out mg HGF.out (.int .i64 r1.k) (.string r1.s) (.int .i64 r1.n) (.slice ra r1.l.length rc) (j * 4))
                rw [setRow4] at SC5
                exact ⟨j + 1, H4, acc ++ [r1], f2, by omega, by go_num, by simp [ha], .inr ⟨HR2.out, fun _ => by omega⟩, fun y hy => HKK.out y (by rw [HDR.out]; exact List.mem_cons_of_mem _ hy), BU1.out, BU2.out, BU3.out.1, BU3.out.2.1, BU3.out.2.2, HT5.out, HO5.out, G0.out, G1.out, G2.out, SC5, m0, m1, m2⟩
              case measure => simp [intOf]; omega
            · rw [if_pos her] at HR2
              have her' : (er != 0) = true := by rw [bne_iff_ne]; exact her
              have hout : Hid (St.fullF S (m + 1) t f = (Tm.zero, er, f2)) := Lib.hid (by rw [hful.out, HR2.out, if_pos her])
              have q0' : w.heap.size + 1 ≠ g := by have := HB.out; omega
              obtain ⟨q0, q1, q2, q3, q4, q5, q6, q7, q8⟩ := box4 G1.out
              have E5 := Lib.hid (HT5.out.store4 m1 (by omega) (.int .i64 0) (.string ⟨#[]⟩) (.int .i64 0) (.slice none 0 0))
              have G2' := Lib.hid ((blk_far4 (k := fb) (b := w.heap.size + 1) (.int .i64 0) (.string ⟨#[]⟩) (.int .i64 0) (.slice none 0 0) (by omega)).trans G2.out)
              go_wp2_with fail
              refine bodyPost_ret (v := .tuple #[.agg #[.int .i64 0, .string ⟨#[]⟩, .int .i64 0, .slice none 0 0], .int .i64 er]) (by simp [results, Try.results34, go_sem, q0, q1, q2, q3, q4]) rfl ?_
              rw [hout.out]
              exact ⟨H4, _, rfl, E5.out, rep_zero H4, G2'.out⟩
      · have hje : j = u.l.length := by omega
        have hjd : u.l.drop j = [] := List.drop_eq_nil_of_le (by omega)
        have hR2 : St.kidsF (St.fullF S m) u f1 = (acc, 0, f') := by
          rcases hR with h | h
          · have := HU6.out h.1; omega
          · rw [h.1, hjd]; rfl
        rw [hjd, List.append_nil] at own
        obtain ⟨H5, E5, hs5, ho5, hT5⟩ := own.freeze_ext EC (by have := HB1.out; omega) (fun _ _ h => h.len)
        have hT5 : Tms H5 _ acc := Sl.mono (Sub.refl _) (fun _ _ _ h => Rep.mono hs5 h) hT5
        have hout : Hid (St.fullF S (m + 1) t f = (.mk u.k u.s u.n acc, 0, f')) := Lib.hid (by rw [hful.out, hR2, if_neg (by simp)])
        have m0 : H5 w.heap.size = none := (ho5 _ (by have := HB1.out; omega)).trans n0
        have m1 : H5 (w.heap.size + 1) = none := (ho5 _ (by have := HB1.out; omega)).trans n1
        have hal : acc.length = u.l.length := by omega
        rw [← hal] at hT5
        have HT5 := Lib.hid hT5
        obtain ⟨-, -, -, hu1, hu2, hu3, -⟩ := HR1.out.open_
        have hrep := Rep.shut hu1 hu2 hu3 hT5
        have HREP := Lib.hid hrep
        have E6 := Lib.hid (E5.setCell (p := ⟨w.heap.size, 3, none⟩) m0 (fun h => absurd h (by simp)) (.slice va u.l.length vc))
        have Z1 : (wr.setCell ⟨w.heap.size, 3, none⟩ (.slice va u.l.length vc)).heap[w.heap.size + 1]? = some zbox := (Below.heap_setCell wr ⟨w.heap.size, 3, none⟩ _ (w.heap.size + 1) (by simp)).trans C1
        have Z2 : (wr.setCell ⟨w.heap.size, 3, none⟩ (.slice va u.l.length vc)).heap[fb]? = some (.cells #[.int .i64 f'] 3 (0, 0)) := (Below.heap_setCell wr ⟨w.heap.size, 3, none⟩ _ fb (by simp; omega)).trans C2
        have E7 := Lib.hid (E6.out.store4 m1 (by omega) (.int .i64 u.k) (.string u.s) (.int .i64 u.n) (.slice va u.l.length vc))
        have Z3 := Lib.hid ((blk_far4 (k := fb) (b := w.heap.size + 1) (.int .i64 u.k) (.string u.s) (.int .i64 u.n) (.slice va u.l.length vc) (by omega)).trans Z2)
        clear own hT5 hrep hR hK hZ hjd HHR E5 hs5 ho5 Z1 Z2 hal
        subst hje
        go_wp2_with fail
        refine bodyPost_ret (v := .tuple #[.agg #[.int .i64 u.k, .string u.s, .int .i64 u.n, .slice va u.l.length vc], .int .i64 0]) (by simp [results, Try.results34, go_sem, p0, p1, p2, p3, p4, q0, q1, q2, q3, q4]) rfl ?_
        rw [hout.out]
        exact ⟨H5, _, rfl, E7.out, by simpa [ha] using HREP.out, Z3.out⟩
  · have her' : (er != 0) = true := by rw [bne_iff_ne]; exact her
    have hout : Hid (St.fullF S (m + 1) t f = (Tm.zero, er, f1)) := Lib.hid (by rw [hful.out, if_pos her])
    have E3 := Lib.hid (E2.out.store4 k1 (by omega) (.int .i64 0) (.string ⟨#[]⟩) (.int .i64 0) (.slice none 0 0))
    go_wp2_with fail
    refine bodyPost_ret (v := (.tuple #[.agg #[.int .i64 0, .string ⟨#[]⟩, .int .i64 0, .slice none 0 0], .int .i64 er])) (by simp [results, Try.results34, go_sem, q0, q1, q2, q3, q4]) rfl ?_
    rw [hout.out]
    exact ⟨H1, _, rfl, E3.out, rep_zero H1, (blk_far4 _ _ _ _ (by omega)).trans F2.out⟩
theorem store_full_at (fb : Nat) (F : Nat → Prop) (s : Nat) (S : St) (M : Nat) : ∀ m, FullAt fb F s S M m
  | 0 => fun t f _ cs H w hf hA _ hR _ _ _ _ _ _ hfb _ _ _ => store_full_zero fb F s S 0 t f cs H w (by omega) hA hR hfb
  | m + 1 => store_full_succ fb F s S M m (store_full_at fb F s S M m)
/-- store.full. -/
theorem store_full {F : Nat → Prop} (fb : Nat) (H : GH) (w : World) (s : Nat) (S : St) (M : Nat) (B : Int) (t : Tm) (f : Int) (cs : List Value) (hA : Agree H w) (hS : StAt H w F s S) (hR : Rep H t cs) (hv : t.valid = true) (hb : t.bnd B = true) (hok : S.Ok M B) (hsz : t.size + f.toNat * M + M ≤ SB) (hB : B + f.toNat * SB + SB ≤ Tm.far) (hf : I64 f)
    (hfb : w.heap[fb]? = some (.cells #[.int .i64 f] 3 (0, 0))) (hfH : H fb = none) (hfF : ¬ F fb) :
    Calls Try.prog 34 #[.pointer (some ⟨s, 0, none⟩), .agg cs.toArray, .pointer (some ⟨fb, 0, none⟩)] w (FullPost fb H w (S.full t f)) :=
  store_full_at fb _ s S M f.toNat t f B cs H w (Nat.le_refl _) hA hS.tight hR hv hb hok hsz hB hf hfb hfH (fun h => hfF h.1) (fun _ h => h.2)
end Go.Proofs.Ytbdappbmlnpogaa
