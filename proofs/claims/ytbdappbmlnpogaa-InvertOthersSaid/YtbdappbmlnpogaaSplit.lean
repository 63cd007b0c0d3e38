/- clause.Split. -/
import Derived.Test.YtbdappbmlnpogaaLeaf
namespace Go.Proofs.Ytbdappbmlnpogaa
open Go Go.RowKit
set_option maxRecDepth 100000
/-- A row of the call's own, where its block is as it was. -/
theorem Own.heap {α : Type} {H : GH} {w w' : World} {base : Nat} {e : TypeId} {sz : Nat} {P : α → List Value → Prop} {v : Value} {xs : List α} (h : Own H w base e sz P v xs) (hh : ∀ g, v.ownBlock = some g → w'.heap[g]? = w.heap[g]?) : Own H w' base e sz P v xs := by
  obtain ⟨C, hr, hf, hq⟩ := h
  refine ⟨C, ⟨hr.1, ?_⟩, hf, hq⟩
  rcases hr.2 with h0 | ⟨g, cap, cur, rfl, hb, h1, r⟩
  · exact .inl h0
  · exact .inr ⟨g, cap, cur, rfl, hb, (hh g (by simp [Value.ownBlock])).trans h1, r⟩
theorem Own.far4 {α : Type} {H : GH} {w : World} {base : Nat} {e : TypeId} {sz : Nat} {P : α → List Value → Prop} {v : Value} {xs : List α} (h : Own H w base e sz P v xs) {b : Nat} (hb : b < base) (u0 u1 u2 u3 : Value) :
    Own H ((((w.setCell ⟨b, 0, none⟩ u0).setCell ⟨b, 1, none⟩ u1).setCell ⟨b, 2, none⟩ u2).setCell ⟨b, 3, none⟩ u3) base e sz P v xs :=
  h.heap fun g hg => blk_far4 _ _ _ _ (by have := (h.lt g hg).1; omega)
theorem Own.base {α : Type} {H : GH} {w : World} {base base' : Nat} {e : TypeId} {sz : Nat} {P : α → List Value → Prop} {v : Value} {xs : List α} (h : Own H w base e sz P v xs) (hb : base' ≤ base) : Own H w base' e sz P v xs := by
  obtain ⟨C, hr, hf, hq⟩ := h
  refine ⟨C, ⟨hr.1, ?_⟩, hf, hq⟩
  rcases hr.2 with h0 | ⟨g, cap, cur, rfl, hb', r⟩
  · exact .inl h0
  · exact .inr ⟨g, cap, cur, rfl, Nat.le_trans hb hb', r⟩
def SplitPost (H : GH) (w : World) (t : Tm) (e : Ending) (w' : World) : Prop :=
  ∃ cs' v, e = .returned (.tuple #[.agg cs'.toArray, v]) ∧ Pure H w H w' ∧ Rep H t.split.1 cs' ∧ Own H w' w.heap.size 30 4 (Rep H) v t.split.2
set_option maxHeartbeats 4000000 in
theorem clause_Split (t : Tm) (cs : List Value) (H : GH) (w : World) (hR : Rep H t cs) (hA : Agree H w) (hsz : t.size ≤ SB) :
    Calls Try.prog 67 #[.agg cs.toArray] w (SplitPost H w t) := by
  have h1 := Lib.hid (fun W hW => term_Valid t cs H W hR hW)
  have hR0 := Lib.hid hR
  obtain ⟨a, cap, rfl, -, -, -, hT⟩ := hR.open_
  obtain ⟨E0, B0, B1, hn⟩ := enter1 t a cap H w hA
  have E0 := Lib.hid E0
  have B0 := Lib.hid B0
  have B1 := Lib.hid B1
  have hn := Lib.hid hn
  clear hR
  have plain : (t.split = (t, [])) → ∀ w', Pure H w H w' → SplitPost H w t (.returned (.tuple #[.agg #[.int .i64 t.k, .string t.s, .int .i64 t.n, .slice a t.l.length cap], .slice none 0 0])) w' := by
    intro hs w' hp
    refine ⟨_, _, rfl, hp, ?_, ?_⟩
    · rw [hs]; exact hR0.out
    · rw [hs]; exact Own.nil _ _ _ _ _ _
  have PL := Lib.hid plain
  clear plain
  cases h6 : (t.k == 6) with
  | false =>
    have h6' : (t.k != 6) = true := by rw [bne, h6]; rfl
    have ho := Lib.hid (show t.split = (t, []) by unfold Tm.split; rw [if_pos (.inl (beq_eq_false_iff_ne.1 h6))])
    have E2 := Lib.hid (((Ext.refl (O := fun _ => False) hA).alloc (tbox t a cap)).alloc (tbox t a cap))
    clear hT hsz
    go_enter Try.func67, Try.ntmps67
    go_wp2_with fail
    refine bodyPost_ret (v := .tuple #[.agg #[.int .i64 t.k, .string t.s, .int .i64 t.n, .slice a t.l.length cap], .slice none 0 0]) (by simp [results, Try.results67, go_sem]) rfl (PL.out ho.out _ E2.out)
  | true =>
    have h6' : (t.k != 6) = false := by rw [bne, h6]; rfl
    have hk : t.k = 6 := beq_iff_eq.1 h6
    cases hv : t.valid with
    | false =>
      have ho := Lib.hid (show t.split = (t, []) by unfold Tm.split; rw [if_pos (.inr hv)])
      have HV := Lib.hid hv
      clear hv hT hsz hk
      go_enter Try.func67, Try.ntmps67
      go_wp2_with fail
      refine (h1.out _ E0.out.agree).mono ?_
      rw [HV.out]
      rintro e w1 ⟨rfl, hb1⟩
      obtain ⟨p0, p1, p2, p3, p4, p5, p6, p7, p8⟩ := box4 (Below.blk hb1 B0.out)
      obtain ⟨q0, q1, q2, q3, q4, q5, q6, q7, q8⟩ := box4 (Below.blk hb1 B1.out)
      have E1 := (E0.out.then_below hb1).store4 hn.out (by omega) (.int .i64 t.k) (.string t.s) (.int .i64 t.n) (.slice a t.l.length cap)
      go_wp2_with fail
      exact bodyPost_ret (v := .tuple #[.agg #[.int .i64 t.k, .string t.s, .int .i64 t.n, .slice a t.l.length cap], .slice none 0 0]) (by simp [results, Try.results67, go_sem, q0, q1, q2, q3, q4]) rfl (PL.out ho.out _ E1)
    | true =>
      have h2 : 2 ≤ t.l.length := by
        cases t with
        | mk k s n l => simp only [Tm.k_mk] at hk; subst hk; exact (Tm.ok1_app.1 ((Tm.valid_iff ..).1 hv).1).2.2.1
      have hlt : t.l.length < t.size := by cases t with | mk k s n l => exact Tm.length_lt k s n l
      unfold SB at hsz
      obtain ⟨y, hy⟩ : ∃ y, t.l[0]? = some y := ⟨_, List.getElem?_eq_getElem (by omega)⟩
      have hgy : t.l.getD 0 Tm.zero = y := by rw [List.getD_eq_getElem?_getD, hy]; rfl
      have ho := Lib.hid (show t.split = (y, t.l.drop 1) by unfold Tm.split; rw [if_neg (by rw [hv]; simp [hk]), hgy])
      obtain ⟨b, o, ycs, rfl, -, hRy, hcy⟩ := hT.get hy
      have hTd := hT.drop 1 (by omega)
      obtain ⟨-, hlc, hcm⟩ := hT.len
      have hcl := Lib.hid (fun W hW => slices_Clone H W hW _ (t.l.drop 1) hTd (by rw [List.length_drop]; omega))
      have HRY := Lib.hid hRy
      obtain ⟨ya, yc, rfl, -, -, -, -⟩ := hRy.open_
      have d0 := hA.cell (hcy 0 _ rfl)
      have d1 := hA.cell (hcy 1 _ rfl)
      have d2 := hA.cell (hcy 2 _ rfl)
      have d3 := hA.cell (hcy 3 _ rfl)
      simp only [Nat.add_zero, Nat.zero_mul, Nat.one_mul] at d0 d1 d2 d3 hcl
      have hbl : b < w.heap.size := World.block_lt_of_cell? w _ d0
      have HV := Lib.hid hv
      have e1 : (1 : Int) ≤ (cap : Int) := by omega
      have e2 : ¬ (cap = 1) := by omega
      have e3 : (1 : Int) ≤ (t.l.length : Int) := by omega
      have e4 : (0 : Int) < (t.l.length : Int) := by omega
      have e5 : 1 ≤ t.l.length := by omega
      have e6 : 0 < t.l.length := by omega
      have S0 : S5 w.heap.size (.slice (some ⟨b, o, none⟩) t.l.length cap) b o (.int .i64 y.k) (.string y.s) (.int .i64 y.n) (.slice ya y.l.length yc) ((w.alloc (tbox t (some ⟨b, o, none⟩) cap)).alloc zbox) := ⟨(box4 B0.out).2.2.2.2.1, by go_simp, by go_simp, by go_simp, by go_simp⟩
      have S0 := Lib.hid S0
      clear hv hk hy hgy hcy hT hTd hsz hlt
      go_enter Try.func67, Try.ntmps67
      go_wp2_with fail
      refine (h1.out _ E0.out.agree).mono ?_
      rw [HV.out]
      rintro e w1 ⟨rfl, hb1⟩
      obtain ⟨p0, p1, p2, p3, p4, p5, p6, p7, p8⟩ := box4 (Below.blk hb1 B0.out)
      obtain ⟨m0, m1, m2, m3, m4⟩ := S0.out.below hb1
      have E1 := E0.out.then_below hb1
      have hbl1 : b < w1.heap.size := World.block_lt_of_cell? w1 _ m1
      go_wp2_with fail
      have hz1 : w.heap.size + 1 < w1.heap.size := cell_lt (Below.blk hb1 B1.out)
      have K0 := (S0.out.below hb1).drew
      have N1 : w.heap.size ≠ w.heap.size + 1 := by omega
      have N2 : b ≠ w.heap.size + 1 := by omega
      have BQ := Lib.hid (Below.blk hb1 B1.out)
      have AG1 := Lib.hid E1.agree.drew
      have LQ := Lib.hid hz1
      go_region_held3 (fun w' => w'.cell? ⟨w.heap.size, 3, none⟩ = some (.slice (some ⟨b, o, none⟩) t.l.length cap) ∧ w'.cell? ⟨b, o, none⟩ = some (.int .i64 y.k) ∧ w'.cell? ⟨b, o + 1, none⟩ = some (.string y.s) ∧ w'.cell? ⟨b, o + 2, none⟩ = some (.int .i64 y.n) ∧ w'.cell? ⟨b, o + 3, none⟩ = some (.slice ya y.l.length yc)) (with_reducible (first | exact K0 | exact KJ | exact KJ.far N1 N2 _ _ _ _)) (first | (go_at_call 60; ((with_reducible refine (hcl.out _ AG1.out).mono ?_); rintro e w3 ⟨v, rfl, own, hb3⟩; have KJ := K0.below hb3; have q3 := Below.blk (Below.trans ((Below.refl _ w1).drew) hb3) BQ.out; obtain ⟨r0, r1, r2, r3, r4, r5, r6, r7, r8⟩ := box4 q3; obtain ⟨va, vc, rfl, -, -⟩ := own.form)))
      have E3 := E1.drew.then_below hb3
      have E4 := E3.store4 hn.out (by omega) (.int .i64 y.k) (.string y.s) (.int .i64 y.n) (.slice ya y.l.length yc)
      have hlt1 : w.heap.size + 1 < w1.heap.size := cell_lt (Below.blk hb1 B1.out)
      have own4 := (own.far4 (b := w.heap.size + 1) (by simpa using hlt1) (.int .i64 y.k) (.string y.s) (.int .i64 y.n) (.slice ya y.l.length yc)).base (base' := w.heap.size) (by simp; omega)
      clear m0 m1 m2 m3 m4 d0 d1 d2 d3
      go_wp2_with fail
      refine bodyPost_ret (v := .tuple #[.agg #[.int .i64 y.k, .string y.s, .int .i64 y.n, .slice ya y.l.length yc], .slice va (t.l.drop 1).length vc]) (by simp [results, Try.results67, go_sem, r0, r1, r2, r3, r4]) rfl ?_
      refine ⟨_, _, rfl, E4, ?_, ?_⟩
      · rw [ho.out]; exact HRY.out
      · rw [ho.out]; exact own4
end Go.Proofs.Ytbdappbmlnpogaa
