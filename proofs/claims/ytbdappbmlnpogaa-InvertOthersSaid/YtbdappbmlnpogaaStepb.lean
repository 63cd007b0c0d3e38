/- Package store in memory: step, an abstraction that is applied. -/
import Derived.Test.YtbdappbmlnpogaaStep
namespace Go.Proofs.Ytbdappbmlnpogaa
open Go Go.RowKit
set_option maxRecDepth 100000
theorem contractV_small {b x : Tm} : (Tm.contractV b x).1.hd6 ∧ (Tm.contractV b x).1.size ≤ 4096 := by
  unfold Tm.contractV
  split
  · rename_i h
    by_cases h0 : (Tm.contract b x).2 = 0
    · obtain ⟨h1, h2⟩ := Tm.contract_size h.1 h.2 h0
      rw [h2]
      exact ⟨Tm.shp_hd6 (Tm.shp_walk _ b 0 (Tm.shp_of_valid b h.1) (fun p _ hp => Tm.shp_substF 0 p.2 (Tm.shp_of_valid x h.2) hp)), h1⟩
    · have : (Tm.contract b x).1 = Tm.zero := by
        unfold Tm.contract at h0 ⊢
        split
        · rfl
        · rename_i hn; rw [if_neg hn] at h0; simp at h0
      rw [this]
      exact ⟨(fun h => (by cases h)), (by simp [Tm.zero, Tm.size_mk])⟩
  · exact ⟨(fun h => (by cases h)), (by simp [Tm.zero, Tm.size_mk])⟩
/-- A list's cell, the list of its first element, that one's first, and the second element. -/
abbrev S10 (g0 : Nat) (v3 : Value) (b o : Nat) (y3 : Value) (b2 o2 : Nat) (z0 z1 z2 z3 x0 x1 x2 x3 : Value) (w : World) : Prop :=
  w.cell? ⟨g0, 3, none⟩ = some v3 ∧ w.cell? ⟨b, o + 3, none⟩ = some y3 ∧ w.cell? ⟨b2, o2, none⟩ = some z0 ∧ w.cell? ⟨b2, o2 + 1, none⟩ = some z1 ∧ w.cell? ⟨b2, o2 + 2, none⟩ = some z2 ∧ w.cell? ⟨b2, o2 + 3, none⟩ = some z3 ∧
  w.cell? ⟨b, o + 4, none⟩ = some x0 ∧ w.cell? ⟨b, o + 5, none⟩ = some x1 ∧ w.cell? ⟨b, o + 6, none⟩ = some x2 ∧ w.cell? ⟨b, o + 7, none⟩ = some x3
section
variable {g0 : Nat} {v3 : Value} {b o : Nat} {y3 : Value} {b2 o2 : Nat} {z0 z1 z2 z3 x0 x1 x2 x3 : Value} {w w' : World}
theorem S10.below (h : S10 g0 v3 b o y3 b2 o2 z0 z1 z2 z3 x0 x1 x2 x3 w) (hb : Below w.heap.size w w') : S10 g0 v3 b o y3 b2 o2 z0 z1 z2 z3 x0 x1 x2 x3 w' := by
  have hc : ∀ {b i : Nat} {v : Value}, w.cell? ⟨b, i, none⟩ = some v → w'.cell? ⟨b, i, none⟩ = some v := fun h => cells4 hb (World.block_lt_of_cell? w _ h) _ h
  obtain ⟨h0, h1, h2, h3, h4, h5, h6, h7, h8, h9⟩ := h
  exact ⟨hc h0, hc h1, hc h2, hc h3, hc h4, hc h5, hc h6, hc h7, hc h8, hc h9⟩
theorem S10.alloc (h : S10 g0 v3 b o y3 b2 o2 z0 z1 z2 z3 x0 x1 x2 x3 w) (x : Obj) : S10 g0 v3 b o y3 b2 o2 z0 z1 z2 z3 x0 x1 x2 x3 (w.alloc x) := h.below (below_alloc w x)
theorem S10.drew (h : S10 g0 v3 b o y3 b2 o2 z0 z1 z2 z3 x0 x1 x2 x3 w) : S10 g0 v3 b o y3 b2 o2 z0 z1 z2 z3 x0 x1 x2 x3 w.drew := h
theorem S10.far (h : S10 g0 v3 b o y3 b2 o2 z0 z1 z2 z3 x0 x1 x2 x3 w) {g : Nat} (e0 : g0 ≠ g) (e1 : b ≠ g) (e2 : b2 ≠ g) (u0 u1 u2 u3 : Value) :
    S10 g0 v3 b o y3 b2 o2 z0 z1 z2 z3 x0 x1 x2 x3 ((((w.setCell ⟨g, 0, none⟩ u0).setCell ⟨g, 1, none⟩ u1).setCell ⟨g, 2, none⟩ u2).setCell ⟨g, 3, none⟩ u3) := by
  obtain ⟨h0, h1, h2, h3, h4, h5, h6, h7, h8, h9⟩ := h
  exact ⟨far4 e0 h0, far4 e1 h1, far4 e2 h2, far4 e2 h3, far4 e2 h4, far4 e2 h5, far4 e1 h6, far4 e1 h7, far4 e1 h8, far4 e1 h9⟩
end
set_option maxHeartbeats 8000000 in
/-- An abstraction is applied. -/
theorem step_beta {F : Nat → Prop} (H : GH) (w : World) (s : Nat) (S : St) (M : Nat) (B : Int) (t : Tm) (cs : List Value) (hA : Agree H w) (hS : StAt H w F s S) (hR : Rep H t cs) (hv : (S.value t).2 = false) (h6 : t.k = 6) (hval : t.valid = true) (hok : S.Ok M B) (hsz : t.size + M ≤ SB)
    (y : Tm) (hy : t.l[0]? = some y) (hv2' : (S.value y).2 = false) (h5 : y.k = 5) (bd : Tm) (hyl : y.l = [bd]) (x1 : Tm) (hx1 : t.l[1]? = some x1) :
    Calls Try.prog 79 #[.pointer (some ⟨s, 0, none⟩), .agg cs.toArray] w (StepPost H w S t) := by
  obtain ⟨y', hy', hgy, hyv, hl2, hys, hll, hsl⟩ := step_prep (S := S) hval h6
  rw [hy] at hy'
  injection hy' with hy'
  subst hy'
  unfold SB at hsz
  have hst0 : S.step t = (Tm.apply (Tm.contractV bd x1).1 (t.l.drop 2), true, (Tm.contractV bd x1).2) := by
    unfold St.step
    rw [if_neg (by rw [hv]; simp), if_neg (by simp [h6]), hgy, if_neg (by rw [hv2']; simp), if_neg (by simp [h5])]
    have e1 : y.l.getD 0 Tm.zero = bd := by rw [hyl]; rfl
    have e2 : t.l.getD 1 Tm.zero = x1 := by rw [List.getD_eq_getElem?_getD, hx1]; rfl
    rw [e1, e2]
  have hlb : (Tm.apply (Tm.contractV bd x1).1 (t.l.drop 2)).l.length ≤ LB := by
    have h1 := (Tm.apply_size (Tm.contractV bd x1).1 (t.l.drop 2)).1
    have h2 := (contractV_small (b := bd) (x := x1)).2
    have h3 := Tm.sizeL_drop_le t.l 2
    have h4 : ((Tm.contractV bd x1).1.apply (t.l.drop 2)).l.length < ((Tm.contractV bd x1).1.apply (t.l.drop 2)).size := by cases (Tm.contractV bd x1).1.apply (t.l.drop 2) with | mk k s n l => exact Tm.length_lt k s n l
    unfold LB; omega
  have HLB := Lib.hid hlb
  have hd6 := Lib.hid (contractV_small (b := bd) (x := x1)).1
  have hst := Lib.hid hst0
  have HV2 := Lib.hid hv2'
  have h5' : (y.k != 5) = false := by rw [bne_eq_false_iff_eq]; exact h5
  have hbz : bd.size ≤ SB := by
    have : bd.size < y.size := by cases y with | mk k s n l => simp only [Tm.l_mk] at hyl; subst hyl; exact Tm.size_lt (by simp)
    unfold SB; omega
  have hxz : x1.size ≤ SB := by
    have := Tm.size_le_sizeL (List.mem_of_getElem? hx1)
    unfold SB; omega
  have HX1 := Lib.hid hx1
  have HYL := Lib.hid hyl
  clear hlb hst0 hv2' h5 hx1 hyl
  have hv1 := Lib.hid (fun W hW (hSt : StAt H W F s S) => store_value H W s S t cs hW hSt hR)
  have HR := Lib.hid hR
  obtain ⟨a, cap, rfl, -, -, -, hT⟩ := hR.open_
  obtain ⟨-, hlc, hcm⟩ := hT.len
  unfold maxLen at hcm
  have HT := Lib.hid hT
  obtain ⟨b, o, ycs, rfl, -, hRy, hcy⟩ := hT.get hy
  have HRY := Lib.hid hRy
  have hv2 := Lib.hid (fun W hW (hSt : StAt H W F s S) => store_value H W s S y ycs hW hSt hRy)
  obtain ⟨ea, ec, rfl, -, -, -, hTy⟩ := hRy.open_
  have hlen1 : y.l.length = 1 := by rw [HYL.out]; rfl
  rw [hlen1] at hcy hv2
  rw [HYL.out] at hTy
  obtain ⟨b2, o2, bcs, rfl, -, hRb, hcb⟩ := hTy.get (i := 0) (x := bd) rfl
  obtain ⟨b', o', xcs, he, -, hRx, hcx⟩ := hT.get HX1.out
  injection he with he
  injection he with he1 he2
  subst he1; subst he2
  have hcon := Lib.hid (fun W hW => beta_Contract bd x1 bcs xcs H W hRb hRx hW hbz hxz)
  obtain ⟨ba, bc, rfl, -, -, -, -⟩ := hRb.open_
  obtain ⟨xa, xc, rfl, -, -, -, -⟩ := hRx.open_
  have HB0 := Lib.hid (hcb 0 _ rfl)
  have HB1 := Lib.hid (hcb 1 _ rfl)
  have HB2 := Lib.hid (hcb 2 _ rfl)
  have HB3 := Lib.hid (hcb 3 _ rfl)
  have HX0 := Lib.hid (hcx 0 _ rfl)
  have HXB := Lib.hid (hcx 1 _ rfl)
  have HXC := Lib.hid (hcx 2 _ rfl)
  have HXD := Lib.hid (hcx 3 _ rfl)
  simp only [Nat.add_zero, Nat.zero_mul, Nat.one_mul, Nat.add_assoc, Nat.reduceAdd] at HB0 HB1 HB2 HB3 HX0 HXB HXC HXD
  clear hRb hRx hcb hcx hTy
  have HY0 := Lib.hid (hcy 0 _ rfl)
  have HY1 := Lib.hid (hcy 1 _ rfl)
  have HY2 := Lib.hid (hcy 2 _ rfl)
  have HY3 := Lib.hid (hcy 3 _ rfl)
  simp only [Nat.add_zero, Nat.zero_mul] at HY0 HY1 HY2 HY3
  obtain ⟨E0, B0, B1, hn⟩ := enter1 t (some ⟨b, o, none⟩) cap H w hA
  have S0 := Lib.hid (hS.pure E0)
  have E0 := Lib.hid E0
  have B0 := Lib.hid B0
  have B1 := Lib.hid B1
  have hn := Lib.hid hn
  have HV := Lib.hid hv
  have h6' : (t.k != 6) = false := by rw [bne_eq_false_iff_eq]; exact h6
  have e4 : (0 : Int) < (t.l.length : Int) := by omega
  have e5 : 1 ≤ t.l.length := by omega
  have e6 : 0 < t.l.length := by omega
  have e7 : (1 : Int) < (t.l.length : Int) := by omega
  have e8 : 1 < t.l.length := by omega
  have HL2 := Lib.hid hl2
  have HLC := Lib.hid hlc
  have HLL := Lib.hid (show t.l.length ≤ 1073741824 by omega)
  clear hR hS hv h6 hT hRy hcy hy hval hok hsz hys hsl hll hgy hl2
  go_enter Try.func79, Try.ntmps79
  go_wp2_with fail
  refine (hv1.out _ E0.out.agree S0.out).mono ?_
  unfold ValuePost
  rw [HV.out]
  rintro e w1 ⟨vcs, rfl, X1, R1⟩
  generalize (S.value t).1 = Y at *
  obtain ⟨ya, yc, rfl, -, -, -, -⟩ := R1.open_
  have E1 := Lib.hid ((E0.out.then X1).alloc (tbox Y ya yc))
  have S1 := Lib.hid ((S0.out.pure X1).below (X1.agree) (below_alloc w1 (tbox Y ya yc)))
  have B2 := Lib.hid (Below.blk X1.below B0.out)
  have B3 := Lib.hid (Below.blk X1.below B1.out)
  obtain ⟨p0, p1, p2, p3, p4, p5, p6, p7, p8⟩ := box4 B2.out
  have c0 := X1.agree.cell HY0.out
  have c1 := X1.agree.cell HY1.out
  have c2 := X1.agree.cell HY2.out
  have c3 := X1.agree.cell HY3.out
  have hbl : b < w1.heap.size := World.block_lt_of_cell? w1 _ c0
  clear hv1
  go_wp2_with fail
  refine (hv2.out _ E1.out.agree S1.out).mono ?_
  unfold ValuePost
  rw [HV2.out]
  generalize hV : (S.value y).1 = V at *
  rintro e w2 ⟨ucs, rfl, X2, R2⟩
  have HRV := Lib.hid R2
  obtain ⟨va, vc, rfl, -, -, -, -⟩ := R2.open_
  have E2 := Lib.hid ((E1.out.then X2).alloc (tbox V va vc))
  have B4 := Lib.hid (Below.blk (below_alloc w2 (tbox V va vc)) (Below.blk X2.below (Below.blk (below_alloc w1 (tbox Y ya yc)) B2.out)))
  have B5 := Lib.hid (Below.blk (below_alloc w2 (tbox V va vc)) (Below.blk X2.below (Below.blk (below_alloc w1 (tbox Y ya yc)) B3.out)))
  have B6 := Lib.hid (heap_alloc_new w2 (tbox V va vc))
  have B4' := Lib.hid (Below.blk X2.below (Below.blk (below_alloc w1 (tbox Y ya yc)) B2.out))
  have B5' := Lib.hid (Below.blk X2.below (Below.blk (below_alloc w1 (tbox Y ya yc)) B3.out))
  have hA2 := Lib.hid X2.agree
  have hb2 := Lib.hid X2.below
  clear p0 p1 p2 p3 p4 p5 p6 p7 p8 c0 c1 c2 c3 hbl hv2 X1 X2 R1
  obtain ⟨p0, p1, p2, p3, p4, p5, p6, p7, p8⟩ := box4 B4'.out
  have c0 := hA2.out.cell HY0.out
  have hbl : b < w2.heap.size := World.block_lt_of_cell? w2 _ c0
  generalize hC : Tm.contractV bd x1 = C at *
  obtain ⟨C, Z⟩ := C
  dsimp only at hst HLB hd6 hcon
  have hd1 := hA2.out.cell HB0.out
  have hbl2 : b2 < w2.heap.size := World.block_lt_of_cell? w2 _ hd1
  have AG1 := Lib.hid E2.out.agree.drew
  have AG2 := Lib.hid (E2.out.alloc zbox).agree.drew
  have BZ := Lib.hid (show ((w2.alloc (tbox V va vc)).alloc zbox).drew.heap[w2.heap.size + 1]? = some zbox from heap_alloc_at _ _ _ (by simp))
  have hA3 := E2.out.agree
  have K : S10 w.heap.size (.slice (some ⟨b, o, none⟩) t.l.length cap) b o (.slice (some ⟨b2, o2, none⟩) 1 ec) b2 o2 (.int .i64 bd.k) (.string bd.s) (.int .i64 bd.n) (.slice ba bd.l.length bc) (.int .i64 x1.k) (.string x1.s) (.int .i64 x1.n) (.slice xa x1.l.length xc) (w2.alloc (tbox V va vc)) :=
    ⟨(blk_cells B4.out 3).1, hA3.cell HY3.out, hA3.cell HB0.out, hA3.cell HB1.out, hA3.cell HB2.out, hA3.cell HB3.out, hA3.cell HX0.out, hA3.cell HXB.out, hA3.cell HXC.out, hA3.cell HXD.out⟩
  have K0 := K.drew
  have K1 := (K.alloc zbox).drew
  have hz2 : w.heap.size < w2.heap.size := p0
  have N0 : w.heap.size ≠ w2.heap.size + 1 := by omega
  have N1 : b ≠ w2.heap.size + 1 := by omega
  have N2 : b2 ≠ w2.heap.size + 1 := by omega
  clear hA3 hd1
  go_upto_region 11 with fail
  go_cut [11, 12] from 47 (fun v11 v12 wx => CutBox (w2.alloc (tbox V va vc)) H C v11 wx ∧ v12 = .int .i64 Z)
  case first =>
    go_region_held3 (fun w' => w'.cell? ⟨w.heap.size, 3, none⟩ = some (.slice (some ⟨b, o, none⟩) t.l.length cap) ∧ w'.cell? ⟨b, o + 3, none⟩ = some (.slice (some ⟨b2, o2, none⟩) 1 ec) ∧ w'.cell? ⟨b2, o2, none⟩ = some (.int .i64 bd.k) ∧ w'.cell? ⟨b2, o2 + 1, none⟩ = some (.string bd.s) ∧ w'.cell? ⟨b2, o2 + 2, none⟩ = some (.int .i64 bd.n) ∧ w'.cell? ⟨b2, o2 + 3, none⟩ = some (.slice ba bd.l.length bc) ∧ w'.cell? ⟨b, o + 4, none⟩ = some (.int .i64 x1.k) ∧ w'.cell? ⟨b, o + 5, none⟩ = some (.string x1.s) ∧ w'.cell? ⟨b, o + 6, none⟩ = some (.int .i64 x1.n) ∧ w'.cell? ⟨b, o + 7, none⟩ = some (.slice xa x1.l.length xc)) (with_reducible (first | exact K0 | exact K1 | exact KJ | exact KJ.alloc _ | exact KJ.far N0 N1 N2 _ _ _ _)) (first | (go_at_call 88; ((with_reducible refine (hcon.out _ AG1.out).mono ?_); rintro e w3 ⟨H3, ccs, rfl, X3, R3⟩; obtain ⟨ca, cc, rfl, -, -, -, -⟩ := R3.open_; have KJ := K0.below X3.below)) | (go_at_call 88; ((with_reducible refine (hcon.out _ AG2.out).mono ?_); rintro e w3 ⟨H3, ccs, rfl, X3, R3⟩; obtain ⟨ca, cc, rfl, -, -, -, -⟩ := R3.open_; have KJ := K1.below X3.below; obtain ⟨j0, j1, j2, j3, j4, j5, j6, j7, j8⟩ := box4 (Below.blk X3.below BZ.out))))
    · go_wp2_with fail
      go_meet
      exact ⟨⟨w3.heap.size, H3, ca, cc, rfl, ((Ext.refl E2.out.agree).drew.then X3).alloc _, R3, heap_alloc_new _ _, X3.agree.free (Nat.le_refl _), X3.size⟩, rfl⟩
    · go_wp2_with fail
      go_meet
      have hz : w2.heap.size + 1 < ((w2.alloc (tbox V va vc)).alloc zbox).drew.heap.size := by simp
      have hn2 : H3 (w2.heap.size + 1) = none := (X3.old _ hz).trans (hA2.out.free (by omega))
      exact ⟨⟨w2.heap.size + 1, H3, ca, cc, rfl, (((Ext.refl E2.out.agree).alloc zbox).drew.then X3).store4 hn2 (by simp) _ _ _ _, R3, blk_set4 _ _ _ _ (Below.blk X3.below BZ.out), hn2, by simp⟩, rfl⟩
  case rest =>
    obtain ⟨⟨g, H3, ca, cc, rfl, X3, R3, hg, hng, hwg⟩, rfl⟩ := hcut
    have E3 := E2.out.then X3
    have HR3 := Lib.hid R3
    have B7 := Lib.hid (Below.blk X3.below B4.out)
    have B8 := Lib.hid (Below.blk X3.below B5.out)
    have hz3 : w.heap.size + 1 < w2.heap.size := cell_lt B5'.out
    have hgg : w2.heap.size < g := by simp at hwg; omega
    have Q : S5 w.heap.size (.slice (some ⟨b, o, none⟩) t.l.length cap) g 0 (.int .i64 C.k) (.string C.s) (.int .i64 C.n) (.slice ca C.l.length cc) wc :=
      ⟨(blk_cells B7.out 3).1, (blk_cells hg 0).1, (blk_cells hg 1).1, (blk_cells hg 2).1, (blk_cells hg 3).1⟩
    have Q0 := Q.drew
    have M1 : w.heap.size ≠ w.heap.size + 1 := by omega
    have M2 : g ≠ w.heap.size + 1 := by omega
    have AG := Lib.hid E3.agree.drew
    have HT3 := Lib.hid (Tms.mono X3.sub HT.out)
    have hn3 : H3 (w.heap.size + 1) = none := (X3.old _ (by simp; omega)).trans hn.out
    have HN3 := Lib.hid hn3
    have HE3 := Lib.hid E3
    have HZ3 := Lib.hid (show w.heap.size + 1 < wc.heap.size by have := X3.size; simp at this; omega)
    clear hcon X3 R3 hg K K0 K1 N0 N1 N2 AG1 AG2 BZ p0 p1 p2 p3 p4 p5 p6 p7 p8 c0 hbl hbl2 hz2 E3 hn3
    have f1 : (2 : Int) ≤ (t.l.length : Int) := by omega
    have f2 : 2 ≤ t.l.length := by omega
    have f3 : (2 : Int) ≤ (cap : Int) := by have := HLC.out; omega
    by_cases hcap : cap = 2
    · subst hcap
      have hl2 : t.l.length = 2 := by have := HLC.out; omega
      have hdn : t.l.drop 2 = [] := List.drop_eq_nil_of_le (by omega)
      have hTd : Tms H3 (.slice (some ⟨b, o, none⟩) 0 0) (t.l.drop 2) := by
        rw [hdn]
        exact Sl.nil' _ _ _ _ _ (by unfold maxLen; omega)
      clear hl2 hdn
      have hap := Lib.hid (fun W hW => term_Apply C _ (t.l.drop 2) _ H3 W HR3.out hTd hW hd6.out HLB.out)
      generalize hZ : C.apply (t.l.drop 2) = R at *
      go_wp2_with fail
      go_region_held3 (fun w' => w'.cell? ⟨w.heap.size, 3, none⟩ = some (.slice (some ⟨b, o, none⟩) t.l.length 2) ∧ w'.cell? ⟨g, 0, none⟩ = some (.int .i64 C.k) ∧ w'.cell? ⟨g, 0 + 1, none⟩ = some (.string C.s) ∧ w'.cell? ⟨g, 0 + 2, none⟩ = some (.int .i64 C.n) ∧ w'.cell? ⟨g, 0 + 3, none⟩ = some (.slice ca C.l.length cc)) (with_reducible (first | exact Q0 | exact KJ | exact KJ.far M1 M2 _ _ _ _)) (first | (go_at_call 14; ((with_reducible refine (hap.out _ AG.out).mono ?_); rintro e w4 ⟨H4, rcs, rfl, X4, R4⟩; have KJ := Q0.below X4.below; have HR4 := Lib.hid R4; obtain ⟨ra, rc, rfl, -, -, -, -⟩ := R4.open_; obtain ⟨q0, q1, q2, q3, q4, q5, q6, q7, q8⟩ := box4 (Below.blk X4.below (Below.blk (Below.refl _ _).drew B8.out)))))
      have hn4 : H4 (w.heap.size + 1) = none := (X4.old _ (by have := HZ3.out; simp; omega)).trans HN3.out
      have E4 := Lib.hid ((HE3.out.drew.then X4).store4 hn4 (by omega) (.int .i64 R.k) (.string R.s) (.int .i64 R.n) (.slice ra R.l.length rc))
      go_wp2_with fail
      exact bodyPost_ret (v := .tuple #[.agg #[.int .i64 R.k, .string R.s, .int .i64 R.n, .slice ra R.l.length rc], .bool true, .int .i64 Z]) (by simp [results, Try.results79, go_sem, q0, q1, q2, q3, q4]) rfl (step_to hst.out E4.out HR4.out)
    · have hTd := HT3.out.drop 2 (by omega)
      simp only [Nat.reduceMul] at hTd
      have hap := Lib.hid (fun W hW => term_Apply C _ (t.l.drop 2) _ H3 W HR3.out hTd hW hd6.out HLB.out)
      generalize hZ : C.apply (t.l.drop 2) = R at *
      go_wp2_with fail
      go_region_held3 (fun w' => w'.cell? ⟨w.heap.size, 3, none⟩ = some (.slice (some ⟨b, o, none⟩) t.l.length cap) ∧ w'.cell? ⟨g, 0, none⟩ = some (.int .i64 C.k) ∧ w'.cell? ⟨g, 0 + 1, none⟩ = some (.string C.s) ∧ w'.cell? ⟨g, 0 + 2, none⟩ = some (.int .i64 C.n) ∧ w'.cell? ⟨g, 0 + 3, none⟩ = some (.slice ca C.l.length cc)) (with_reducible (first | exact Q0 | exact KJ | exact KJ.far M1 M2 _ _ _ _)) (first | (go_at_call 14; ((with_reducible refine (hap.out _ AG.out).mono ?_); rintro e w4 ⟨H4, rcs, rfl, X4, R4⟩; have KJ := Q0.below X4.below; have HR4 := Lib.hid R4; obtain ⟨ra, rc, rfl, -, -, -, -⟩ := R4.open_; obtain ⟨q0, q1, q2, q3, q4, q5, q6, q7, q8⟩ := box4 (Below.blk X4.below (Below.blk (Below.refl _ _).drew B8.out)))))
      have hn4 : H4 (w.heap.size + 1) = none := (X4.old _ (by have := HZ3.out; simp; omega)).trans HN3.out
      have E4 := Lib.hid ((HE3.out.drew.then X4).store4 hn4 (by omega) (.int .i64 R.k) (.string R.s) (.int .i64 R.n) (.slice ra R.l.length rc))
      go_wp2_with fail
      exact bodyPost_ret (v := .tuple #[.agg #[.int .i64 R.k, .string R.s, .int .i64 R.n, .slice ra R.l.length rc], .bool true, .int .i64 Z]) (by simp [results, Try.results79, go_sem, q0, q1, q2, q3, q4]) rfl (step_to hst.out E4.out HR4.out)
end Go.Proofs.Ytbdappbmlnpogaa
