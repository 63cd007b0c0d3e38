/- Package store in memory: step. -/
import Derived.Test.YtbdappbmlnpogaaValue
namespace Go.Proofs.Ytbdappbmlnpogaa
open Go Go.RowKit
set_option maxRecDepth 100000
def StepPost (H : GH) (w : World) (S : St) (t : Tm) (e : Ending) (w' : World) : Prop := ∃ H' cs', e = .returned (.tuple #[.agg cs'.toArray, .bool (S.step t).2.1, .int .i64 (S.step t).2.2]) ∧ Pure H w H' w' ∧ Rep H' (S.step t).1 cs'
theorem step_to {H H' : GH} {w w' : World} {S : St} {t r : Tm} {b : Bool} {n : Int} {cs' : List Value} (hs : S.step t = (r, b, n)) (hp : Pure H w H' w') (hr : Rep H' r cs') : StepPost H w S t (.returned (.tuple #[.agg cs'.toArray, .bool b, .int .i64 n])) w' := by
  unfold StepPost
  rw [hs]
  exact ⟨H', cs', rfl, hp, hr⟩
set_option maxHeartbeats 4000000 in
/-- The term itself stands for something. -/
theorem step_val {F : Nat → Prop} (H : GH) (w : World) (s : Nat) (S : St) (t : Tm) (cs : List Value) (hA : Agree H w) (hS : StAt H w F s S) (hR : Rep H t cs) (hv : (S.value t).2 = true) :
    Calls Try.prog 79 #[.pointer (some ⟨s, 0, none⟩), .agg cs.toArray] w (StepPost H w S t) := by
  have hst := Lib.hid (show S.step t = ((S.value t).1, true, 0) by unfold St.step; rw [if_pos hv])
  have hval := Lib.hid (fun W hW (hSt : StAt H W F s S) => store_value H W s S t cs hW hSt hR)
  obtain ⟨a, cap, rfl, -, -, -, -⟩ := hR.open_
  obtain ⟨E0, B0, B1, hn⟩ := enter1 t a cap H w hA
  have S0 := Lib.hid (hS.pure E0)
  have E0 := Lib.hid E0
  have B1 := Lib.hid B1
  have hn := Lib.hid hn
  have HV := Lib.hid hv
  clear hR hS hv B0
  go_enter Try.func79, Try.ntmps79
  go_wp2_with fail
  refine (hval.out _ E0.out.agree S0.out).mono ?_
  unfold ValuePost
  rw [HV.out]
  rintro e w1 ⟨vcs, rfl, X1, R1⟩
  have E1 := Lib.hid (E0.out.then X1)
  have HR1 := Lib.hid R1
  generalize (S.value t).1 = Y at *
  obtain ⟨ya, yc, rfl, -, -, -, -⟩ := R1.open_
  obtain ⟨q0, q1, q2, q3, q4, q5, q6, q7, q8⟩ := box4 (Below.blk X1.below B1.out)
  have E2 := Lib.hid ((E1.out.store4 hn.out (by omega) (.int .i64 Y.k) (.string Y.s) (.int .i64 Y.n) (.slice ya Y.l.length yc)).alloc (tbox Y ya yc))
  clear hval X1
  go_wp2_with fail
  exact bodyPost_ret (v := .tuple #[.agg #[.int .i64 Y.k, .string Y.s, .int .i64 Y.n, .slice ya Y.l.length yc], .bool true, .int .i64 0]) (by simp [results, Try.results79, go_sem, q0, q1, q2, q3, q4]) rfl (step_to hst.out E2.out HR1.out)
set_option maxHeartbeats 4000000 in
/-- It does not, and is not applied. -/
theorem step_leaf {F : Nat → Prop} (H : GH) (w : World) (s : Nat) (S : St) (t : Tm) (cs : List Value) (hA : Agree H w) (hS : StAt H w F s S) (hR : Rep H t cs) (hv : (S.value t).2 = false) (h6 : t.k ≠ 6) :
    Calls Try.prog 79 #[.pointer (some ⟨s, 0, none⟩), .agg cs.toArray] w (StepPost H w S t) := by
  have hst := Lib.hid (show S.step t = (t, false, 0) by unfold St.step; rw [if_neg (by rw [hv]; simp), if_pos h6])
  have hval := Lib.hid (fun W hW (hSt : StAt H W F s S) => store_value H W s S t cs hW hSt hR)
  have HR := Lib.hid hR
  obtain ⟨a, cap, rfl, -, -, -, -⟩ := hR.open_
  obtain ⟨E0, B0, B1, hn⟩ := enter1 t a cap H w hA
  have S0 := Lib.hid (hS.pure E0)
  have E0 := Lib.hid E0
  have B0 := Lib.hid B0
  have B1 := Lib.hid B1
  have hn := Lib.hid hn
  have HV := Lib.hid hv
  have h6' : (t.k != 6) = true := by rw [bne_iff_ne]; exact h6
  clear hR hS hv h6
  go_enter Try.func79, Try.ntmps79
  go_wp2_with fail
  refine (hval.out _ E0.out.agree S0.out).mono ?_
  unfold ValuePost
  rw [HV.out]
  rintro e w1 ⟨vcs, rfl, X1, R1⟩
  have E1 := Lib.hid (E0.out.then X1)
  generalize (S.value t).1 = Y at *
  obtain ⟨ya, yc, rfl, -, -, -, -⟩ := R1.open_
  obtain ⟨p0, p1, p2, p3, p4, p5, p6, p7, p8⟩ := box4 (Below.blk X1.below B0.out)
  obtain ⟨q0, q1, q2, q3, q4, q5, q6, q7, q8⟩ := box4 (Below.blk X1.below B1.out)
  have E2 := Lib.hid ((E1.out.store4 hn.out (by omega) (.int .i64 t.k) (.string t.s) (.int .i64 t.n) (.slice a t.l.length cap)).alloc (tbox Y ya yc))
  clear hval X1
  go_wp2_with fail
  exact bodyPost_ret (v := .tuple #[.agg #[.int .i64 t.k, .string t.s, .int .i64 t.n, .slice a t.l.length cap], .bool false, .int .i64 0]) (by simp [results, Try.results79, go_sem, q0, q1, q2, q3, q4]) rfl (step_to hst.out E2.out HR.out)
/-- What an application's list gives. -/
theorem step_prep {S : St} {t : Tm} (hv : t.valid = true) (h6 : t.k = 6) : ∃ y, t.l[0]? = some y ∧ t.l.getD 0 Tm.zero = y ∧ y.valid = true ∧ 2 ≤ t.l.length ∧ y.size < t.size ∧ t.l.length < t.size ∧ Tm.sizeL t.l < t.size := by
  cases t with
  | mk k s n l =>
    simp only [Tm.k_mk, Tm.l_mk] at h6 ⊢
    subst h6
    obtain ⟨g1, g2⟩ := (Tm.valid_iff ..).1 hv
    obtain ⟨-, -, h2, -⟩ := Tm.ok1_app.1 g1
    cases l with
    | nil => simp at h2
    | cons x xs =>
      refine ⟨x, rfl, rfl, g2 x (by simp), h2, ?_, Tm.length_lt 6 s n _, ?_⟩
      · exact Tm.size_lt (by simp)
      · rw [Tm.size_mk]; omega
set_option maxHeartbeats 8000000 in
/-- What is applied stands for something. -/
theorem step_appval {F : Nat → Prop} (H : GH) (w : World) (s : Nat) (S : St) (M : Nat) (B : Int) (t : Tm) (cs : List Value) (hA : Agree H w) (hS : StAt H w F s S) (hR : Rep H t cs) (hv : (S.value t).2 = false) (h6 : t.k = 6) (hval : t.valid = true) (hok : S.Ok M B) (hsz : t.size + M ≤ SB)
    (y : Tm) (hy : t.l[0]? = some y) (hv2' : (S.value y).2 = true) :
    Calls Try.prog 79 #[.pointer (some ⟨s, 0, none⟩), .agg cs.toArray] w (StepPost H w S t) := by
  obtain ⟨y', hy', hgy, hyv, hl2, hys, hll, hsl⟩ := step_prep (S := S) hval h6
  rw [hy] at hy'
  injection hy' with hy'
  subst hy'
  unfold SB at hsz
  have hvf := St.value_fit hok hv2'
  have hst := Lib.hid (show S.step t = (Tm.apply (S.value y).1 (t.l.drop 1), true, 0) by
    unfold St.step
    rw [if_neg (by rw [hv]; simp), if_neg (by simp [h6]), hgy, if_pos hv2'])
  have hd6 := Lib.hid (Tm.shp_hd6 (Tm.shp_of_valid _ hvf.v))
  have hlb : ((S.value y).1.apply (t.l.drop 1)).l.length ≤ LB := by
    have h1 := (Tm.apply_size (S.value y).1 (t.l.drop 1)).1
    have h2 := hvf.s
    have h3 := Tm.sizeL_drop_le t.l 1
    have h4 : ((S.value y).1.apply (t.l.drop 1)).l.length < ((S.value y).1.apply (t.l.drop 1)).size := by cases (S.value y).1.apply (t.l.drop 1) with | mk k s n l => exact Tm.length_lt k s n l
    unfold LB; omega
  have HLB := Lib.hid hlb
  have HV2 := Lib.hid hv2'
  clear hlb hvf hv2'
  have hv1 := Lib.hid (fun W hW (hSt : StAt H W F s S) => store_value H W s S t cs hW hSt hR)
  have HR := Lib.hid hR
  obtain ⟨a, cap, rfl, -, -, -, hT⟩ := hR.open_
  obtain ⟨-, hlc, hcm⟩ := hT.len
  unfold maxLen at hcm
  have HT := Lib.hid hT
  obtain ⟨b, o, ycs, rfl, -, hRy, hcy⟩ := hT.get hy
  have HRY := Lib.hid hRy
  have hv2 := Lib.hid (fun W hW (hSt : StAt H W F s S) => store_value H W s S y ycs hW hSt hRy)
  obtain ⟨ea, ec, rfl, -, -, -, -⟩ := hRy.open_
  have HY0 := Lib.hid (hcy 0 _ rfl)
  have HY1 := Lib.hid (hcy 1 _ rfl)
  have HY2 := Lib.hid (hcy 2 _ rfl)
  have HY3 := Lib.hid (hcy 3 _ rfl)
  simp only [Nat.add_zero, Nat.zero_mul] at HY0 HY1 HY2 HY3
  obtain ⟨E0, B0, B1, hn⟩ := enter1 t (some ⟨b, o, none⟩) cap H w hA
  have S0 := Lib.hid (hS.pure E0)
  have E0 := Lib.hid E0
  have B0 := Lib.hid B0
  have B1 := Lib.hid B1
  have hn := Lib.hid hn
  have HV := Lib.hid hv
  have h6' : (t.k != 6) = false := by rw [bne_eq_false_iff_eq]; exact h6
  have e4 : (0 : Int) < (t.l.length : Int) := by omega
  have e5 : 1 ≤ t.l.length := by omega
  have e6 : 0 < t.l.length := by omega
  have HL2 := Lib.hid hl2
  have HLC := Lib.hid hlc
  have HLL := Lib.hid (show t.l.length ≤ 1073741824 by omega)
  clear hR hS hv h6 hT hRy hcy hy hval hok hsz hys hsl hll hgy hl2
  go_enter Try.func79, Try.ntmps79
  go_wp2_with fail
  refine (hv1.out _ E0.out.agree S0.out).mono ?_
  unfold ValuePost
  rw [HV.out]
  rintro e w1 ⟨vcs, rfl, X1, R1⟩
  generalize (S.value t).1 = Y at *
  obtain ⟨ya, yc, rfl, -, -, -, -⟩ := R1.open_
  have E1 := Lib.hid ((E0.out.then X1).alloc (tbox Y ya yc))
  have S1 := Lib.hid ((S0.out.pure X1).below (X1.agree) (below_alloc w1 (tbox Y ya yc)))
  have B2 := Lib.hid (Below.blk X1.below B0.out)
  have B3 := Lib.hid (Below.blk X1.below B1.out)
  obtain ⟨p0, p1, p2, p3, p4, p5, p6, p7, p8⟩ := box4 B2.out
  have c0 := X1.agree.cell HY0.out
  have c1 := X1.agree.cell HY1.out
  have c2 := X1.agree.cell HY2.out
  have c3 := X1.agree.cell HY3.out
  have hbl : b < w1.heap.size := World.block_lt_of_cell? w1 _ c0
  clear hv1
  go_wp2_with fail
  refine (hv2.out _ E1.out.agree S1.out).mono ?_
  unfold ValuePost
  rw [HV2.out]
  generalize hV : (S.value y).1 = V at *
  rintro e w2 ⟨ucs, rfl, X2, R2⟩
  have HRV := Lib.hid R2
  obtain ⟨va, vc, rfl, -, -, -, -⟩ := R2.open_
  have E2 := Lib.hid ((E1.out.then X2).alloc (tbox V va vc))
  have B4 := Lib.hid (Below.blk (below_alloc w2 (tbox V va vc)) (Below.blk X2.below (Below.blk (below_alloc w1 (tbox Y ya yc)) B2.out)))
  have B5 := Lib.hid (Below.blk (below_alloc w2 (tbox V va vc)) (Below.blk X2.below (Below.blk (below_alloc w1 (tbox Y ya yc)) B3.out)))
  have B6 := Lib.hid (heap_alloc_new w2 (tbox V va vc))
  have B4' := Lib.hid (Below.blk X2.below (Below.blk (below_alloc w1 (tbox Y ya yc)) B2.out))
  have B5' := Lib.hid (Below.blk X2.below (Below.blk (below_alloc w1 (tbox Y ya yc)) B3.out))
  have hA2 := Lib.hid X2.agree
  clear p0 p1 p2 p3 p4 p5 p6 p7 p8 c0 c1 c2 c3 hbl hv2 X1 X2 R1
  have hTd := HT.out.drop 1 (by have := HL2.out; omega)
  simp only [Nat.one_mul] at hTd
  have hap := Lib.hid (fun W hW => term_Apply V _ (t.l.drop 1) _ H W HRV.out hTd hW hd6.out HLB.out)
  generalize hZ : V.apply (t.l.drop 1) = Z at *
  have K : S5 w.heap.size (.slice (some ⟨b, o, none⟩) t.l.length cap) w2.heap.size 0 (.int .i64 V.k) (.string V.s) (.int .i64 V.n) (.slice va V.l.length vc) (w2.alloc (tbox V va vc)) :=
    ⟨(blk_cells B4.out 3).1, (blk_cells B6.out 0).1, (blk_cells B6.out 1).1, (blk_cells B6.out 2).1, (blk_cells B6.out 3).1⟩
  have K0 := K.drew
  have hz2 : w.heap.size + 1 < w2.heap.size := cell_lt B5'.out
  have N1 : w.heap.size ≠ w.heap.size + 1 := by omega
  have N2 : w2.heap.size ≠ w.heap.size + 1 := by omega
  have e1 : (1 : Int) ≤ (cap : Int) := by have := HL2.out; omega
  have e2 : ¬ (cap = 1) := by have := HL2.out; omega
  have e3 : (1 : Int) ≤ (t.l.length : Int) := by omega
  have AG := Lib.hid E2.out.agree.drew
  have hzN := Lib.hid hz2
  go_wp2_with fail
  go_region_held3 (fun w' => w'.cell? ⟨w.heap.size, 3, none⟩ = some (.slice (some ⟨b, o, none⟩) t.l.length cap) ∧ w'.cell? ⟨w2.heap.size, 0, none⟩ = some (.int .i64 V.k) ∧ w'.cell? ⟨w2.heap.size, 0 + 1, none⟩ = some (.string V.s) ∧ w'.cell? ⟨w2.heap.size, 0 + 2, none⟩ = some (.int .i64 V.n) ∧ w'.cell? ⟨w2.heap.size, 0 + 3, none⟩ = some (.slice va V.l.length vc)) (with_reducible (first | exact K0 | exact KJ | exact KJ.far N1 N2 _ _ _ _)) (first | (go_at_call 14; ((with_reducible refine (hap.out _ AG.out).mono ?_); rintro e w3 ⟨H3, zcs, rfl, X3, R3⟩; have KJ := K0.below X3.below; have HR3 := Lib.hid R3; obtain ⟨za, zc, rfl, -, -, -, -⟩ := R3.open_; obtain ⟨q0, q1, q2, q3, q4, q5, q6, q7, q8⟩ := box4 (Below.blk X3.below (Below.blk (Below.refl _ _).drew B5.out)))))
  have hn3 : H3 (w.heap.size + 1) = none := (X3.old _ (by have := hzN.out; simp; omega)).trans hn.out
  have E3 := Lib.hid ((E2.out.drew.then X3).store4 hn3 (by omega) (.int .i64 Z.k) (.string Z.s) (.int .i64 Z.n) (.slice za Z.l.length zc))
  go_wp2_with fail
  exact bodyPost_ret (v := .tuple #[.agg #[.int .i64 Z.k, .string Z.s, .int .i64 Z.n, .slice za Z.l.length zc], .bool true, .int .i64 0]) (by simp [results, Try.results79, go_sem, q0, q1, q2, q3, q4]) rfl (step_to hst.out E3.out HR3.out)
set_option maxHeartbeats 8000000 in
/-- What is applied is neither, nor an abstraction. -/
theorem step_appleaf {F : Nat → Prop} (H : GH) (w : World) (s : Nat) (S : St) (M : Nat) (B : Int) (t : Tm) (cs : List Value) (hA : Agree H w) (hS : StAt H w F s S) (hR : Rep H t cs) (hv : (S.value t).2 = false) (h6 : t.k = 6) (hval : t.valid = true) (hok : S.Ok M B) (hsz : t.size + M ≤ SB)
    (y : Tm) (hy : t.l[0]? = some y) (hv2' : (S.value y).2 = false) (h5 : y.k ≠ 5) :
    Calls Try.prog 79 #[.pointer (some ⟨s, 0, none⟩), .agg cs.toArray] w (StepPost H w S t) := by
  obtain ⟨y', hy', hgy, hyv, hl2, hys, hll, hsl⟩ := step_prep (S := S) hval h6
  rw [hy] at hy'
  injection hy' with hy'
  subst hy'
  unfold SB at hsz
  have hst := Lib.hid (show S.step t = (t, false, 0) by
    unfold St.step
    rw [if_neg (by rw [hv]; simp), if_neg (by simp [h6]), hgy, if_neg (by rw [hv2']; simp), if_pos h5])
  have HV2 := Lib.hid hv2'
  have h5' : (y.k != 5) = true := by rw [bne_iff_ne]; exact h5
  clear hv2' h5
  have hv1 := Lib.hid (fun W hW (hSt : StAt H W F s S) => store_value H W s S t cs hW hSt hR)
  have HR := Lib.hid hR
  obtain ⟨a, cap, rfl, -, -, -, hT⟩ := hR.open_
  obtain ⟨-, hlc, hcm⟩ := hT.len
  unfold maxLen at hcm
  have HT := Lib.hid hT
  obtain ⟨b, o, ycs, rfl, -, hRy, hcy⟩ := hT.get hy
  have HRY := Lib.hid hRy
  have hv2 := Lib.hid (fun W hW (hSt : StAt H W F s S) => store_value H W s S y ycs hW hSt hRy)
  obtain ⟨ea, ec, rfl, -, -, -, -⟩ := hRy.open_
  have HY0 := Lib.hid (hcy 0 _ rfl)
  have HY1 := Lib.hid (hcy 1 _ rfl)
  have HY2 := Lib.hid (hcy 2 _ rfl)
  have HY3 := Lib.hid (hcy 3 _ rfl)
  simp only [Nat.add_zero, Nat.zero_mul] at HY0 HY1 HY2 HY3
  obtain ⟨E0, B0, B1, hn⟩ := enter1 t (some ⟨b, o, none⟩) cap H w hA
  have S0 := Lib.hid (hS.pure E0)
  have E0 := Lib.hid E0
  have B0 := Lib.hid B0
  have B1 := Lib.hid B1
  have hn := Lib.hid hn
  have HV := Lib.hid hv
  have h6' : (t.k != 6) = false := by rw [bne_eq_false_iff_eq]; exact h6
  have e4 : (0 : Int) < (t.l.length : Int) := by omega
  have e5 : 1 ≤ t.l.length := by omega
  have e6 : 0 < t.l.length := by omega
  have HL2 := Lib.hid hl2
  have HLC := Lib.hid hlc
  have HLL := Lib.hid (show t.l.length ≤ 1073741824 by omega)
  clear hR hS hv h6 hT hRy hcy hy hval hok hsz hys hsl hll hgy hl2
  go_enter Try.func79, Try.ntmps79
  go_wp2_with fail
  refine (hv1.out _ E0.out.agree S0.out).mono ?_
  unfold ValuePost
  rw [HV.out]
  rintro e w1 ⟨vcs, rfl, X1, R1⟩
  generalize (S.value t).1 = Y at *
  obtain ⟨ya, yc, rfl, -, -, -, -⟩ := R1.open_
  have E1 := Lib.hid ((E0.out.then X1).alloc (tbox Y ya yc))
  have S1 := Lib.hid ((S0.out.pure X1).below (X1.agree) (below_alloc w1 (tbox Y ya yc)))
  have B2 := Lib.hid (Below.blk X1.below B0.out)
  have B3 := Lib.hid (Below.blk X1.below B1.out)
  obtain ⟨p0, p1, p2, p3, p4, p5, p6, p7, p8⟩ := box4 B2.out
  have c0 := X1.agree.cell HY0.out
  have c1 := X1.agree.cell HY1.out
  have c2 := X1.agree.cell HY2.out
  have c3 := X1.agree.cell HY3.out
  have hbl : b < w1.heap.size := World.block_lt_of_cell? w1 _ c0
  clear hv1
  go_wp2_with fail
  refine (hv2.out _ E1.out.agree S1.out).mono ?_
  unfold ValuePost
  rw [HV2.out]
  generalize hV : (S.value y).1 = V at *
  rintro e w2 ⟨ucs, rfl, X2, R2⟩
  have HRV := Lib.hid R2
  obtain ⟨va, vc, rfl, -, -, -, -⟩ := R2.open_
  have E2 := Lib.hid ((E1.out.then X2).alloc (tbox V va vc))
  have B4 := Lib.hid (Below.blk (below_alloc w2 (tbox V va vc)) (Below.blk X2.below (Below.blk (below_alloc w1 (tbox Y ya yc)) B2.out)))
  have B5 := Lib.hid (Below.blk (below_alloc w2 (tbox V va vc)) (Below.blk X2.below (Below.blk (below_alloc w1 (tbox Y ya yc)) B3.out)))
  have B6 := Lib.hid (heap_alloc_new w2 (tbox V va vc))
  have B4' := Lib.hid (Below.blk X2.below (Below.blk (below_alloc w1 (tbox Y ya yc)) B2.out))
  have B5' := Lib.hid (Below.blk X2.below (Below.blk (below_alloc w1 (tbox Y ya yc)) B3.out))
  have hA2 := Lib.hid X2.agree
  have hb2 := Lib.hid X2.below
  clear p0 p1 p2 p3 p4 p5 p6 p7 p8 c0 c1 c2 c3 hbl hv2 X1 X2 R1
  obtain ⟨p0, p1, p2, p3, p4, p5, p6, p7, p8⟩ := box4 B4'.out
  obtain ⟨q0, q1, q2, q3, q4, q5, q6, q7, q8⟩ := box4 B5'.out
  have c0 := hA2.out.cell HY0.out
  have hbl : b < w2.heap.size := World.block_lt_of_cell? w2 _ c0
  have E3 := Lib.hid (((E1.out.then (Ext.of_below E1.out.agree hb2.out)).store4 hn.out (by omega) (.int .i64 t.k) (.string t.s) (.int .i64 t.n) (.slice (some ⟨b, o, none⟩) t.l.length cap)).alloc (tbox V va vc))
  go_wp2_with fail
  exact bodyPost_ret (v := .tuple #[.agg #[.int .i64 t.k, .string t.s, .int .i64 t.n, .slice (some ⟨b, o, none⟩) t.l.length cap], .bool false, .int .i64 0]) (by simp [results, Try.results79, go_sem, q0, q1, q2, q3, q4]) rfl (step_to hst.out E3.out HR.out)
end Go.Proofs.Ytbdappbmlnpogaa
