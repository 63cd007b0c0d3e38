/- beta.Contract. -/
import Derived.Test.YtbdappbmlnpogaaFit
namespace Go.Proofs.Ytbdappbmlnpogaa
open Go Go.RowKit
set_option maxRecDepth 100000
theorem Below.blk {w w1 : World} (hb : Below w.heap.size w w1) {b : Nat} {o : Obj} (h : w.heap[b]? = some o) : w1.heap[b]? = some o := (hb.block b (cell_lt h)).trans h
/-- A box of four cells. -/
theorem box4 {w : World} {b : Nat} {v0 v1 v2 v3 : Value} {T : TypeId} (h : w.heap[b]? = some (.cells #[v0, v1, v2, v3] T (0, 0))) :
    b < w.heap.size ∧ w.cell? ⟨b, 0, none⟩ = some v0 ∧ w.cell? ⟨b, 1, none⟩ = some v1 ∧ w.cell? ⟨b, 2, none⟩ = some v2 ∧ w.cell? ⟨b, 3, none⟩ = some v3 ∧
      w.frozen? ⟨b, 0, none⟩ = false ∧ w.frozen? ⟨b, 1, none⟩ = false ∧ w.frozen? ⟨b, 2, none⟩ = false ∧ w.frozen? ⟨b, 3, none⟩ = false :=
  ⟨cell_lt h, (blk_cells h 0).1, (blk_cells h 1).1, (blk_cells h 2).1, (blk_cells h 3).1, (blk_cells h 0).2, (blk_cells h 1).2, (blk_cells h 2).2, (blk_cells h 3).2⟩
/-- The cells of a term whose list lies at an address. -/
abbrev tcells (t : Tm) (a : Option Addr) (cap : Nat) : Array Value := #[.int .i64 t.k, .string t.s, .int .i64 t.n, .slice a t.l.length cap]
abbrev tbox (t : Tm) (a : Option Addr) (cap : Nat) : Obj := .cells (tcells t a cap) 30 (0, 0)
abbrev zbox : Obj := .cells #[.int .i64 0, .string ⟨#[]⟩, .int .i64 0, .slice none 0 0] 30 (0, 0)
theorem rep_zero (H : GH) : Rep H Tm.zero [.int .i64 0, .string ⟨#[]⟩, .int .i64 0, .slice none 0 0] :=
  Rep.shut (by unfold I64; omega) (by unfold I64; omega) (by simp [maxLen]) (Sl.nil _ _ _)
set_option maxHeartbeats 2000000 in
theorem beta_Contract (t u : Tm) (cs us : List Value) (H : GH) (w : World) (hR : Rep H t cs) (hU : Rep H u us) (hA : Agree H w) (hsz : t.size ≤ SB) (hszu : u.size ≤ SB) :
    Calls Try.prog 88 #[.agg cs.toArray, .agg us.toArray] w fun e w' => ∃ H' cs', e = .returned (.tuple #[.agg cs'.toArray, .int .i64 (t.contractV u).2]) ∧ Pure H w H' w' ∧ Rep H' (t.contractV u).1 cs' := by
  have h1 := Lib.hid (fun W hW => term_Valid t cs H W hR hW)
  have h2 := Lib.hid (fun W hW => term_Valid u us H W hU hW)
  have h3 := Lib.hid (fun W hW (hv : t.valid = true) (hw : u.valid = true) => beta_contract t u cs us H W hR hU hW hsz hszu (Tm.shp_of_valid t hv)
    (fun h0 => ⟨by have := (Tm.contract_size hv hw h0).1; unfold LB; omega, Tm.substL_valid hv hw hsz hszu⟩))
  obtain ⟨a, cap, rfl, -, -, -, -⟩ := hR.open_
  obtain ⟨b, bap, rfl, -, -, -, -⟩ := hU.open_
  clear hsz hszu hR hU
  have E0 := Lib.hid ((((Ext.refl (O := fun _ => False) hA).alloc (tbox t a cap)).alloc (tbox u b bap)).alloc zbox)
  have B0 := Lib.hid (show (((w.alloc (tbox t a cap)).alloc (tbox u b bap)).alloc zbox).heap[w.heap.size]? = some (tbox t a cap) from Below.blk (below_alloc _ _) (Below.blk (below_alloc _ _) (heap_alloc_new _ _)))
  have B1 := Lib.hid (show (((w.alloc (tbox t a cap)).alloc (tbox u b bap)).alloc zbox).heap[w.heap.size + 1]? = some (tbox u b bap) from Below.blk (below_alloc _ _) (heap_alloc_at _ _ _ (by simp)))
  have B2 := Lib.hid (show (((w.alloc (tbox t a cap)).alloc (tbox u b bap)).alloc zbox).heap[w.heap.size + 1 + 1]? = some zbox from heap_alloc_at _ _ _ (by simp))
  have hn : Hid (H (w.heap.size + 1 + 1) = none) := Lib.hid (hA.free (by omega))
  cases hv : t.valid with
  | false =>
    have ho := Lib.hid (show t.contractV u = (Tm.zero, 1) by unfold Tm.contractV; rw [hv]; rfl)
    have HV := Lib.hid hv
    clear hv
    go_enter Try.func88, Try.ntmps88
    go_wp2_with fail
    refine (h1.out _ E0.out.agree).mono ?_
    rw [HV.out]
    rintro e w1 ⟨rfl, hb1⟩
    obtain ⟨g0, g1, g2, g3, g4, g5, g6, g7, g8⟩ := box4 (Below.blk hb1 B2.out)
    have E1 := (E0.out.then_below hb1).store4 hn.out (by omega) (.int .i64 0) (.string ⟨#[]⟩) (.int .i64 0) (.slice none 0 0)
    go_wp2_with fail
    rw [ho.out]
    exact bodyPost_ret (v := .tuple #[.agg #[.int .i64 0, .string ⟨#[]⟩, .int .i64 0, .slice none 0 0], .int .i64 1]) (by simp [results, Try.results88, go_sem, g1, g2, g3, g4]) rfl ⟨H, _, rfl, E1, rep_zero H⟩
  | true =>
    cases hw : u.valid with
    | false =>
      have ho := Lib.hid (show t.contractV u = (Tm.zero, 1) by unfold Tm.contractV; rw [hv, hw]; rfl)
      have HV := Lib.hid hv
      have HW := Lib.hid hw
      clear hv hw
      go_enter Try.func88, Try.ntmps88
      go_wp2_with fail
      refine (h1.out _ E0.out.agree).mono ?_
      rw [HV.out]
      rintro e w1 ⟨rfl, hb1⟩
      obtain ⟨p0, p1, p2, p3, p4, p5, p6, p7, p8⟩ := box4 (Below.blk hb1 B1.out)
      go_wp2_with fail
      refine (h2.out _ (E0.out.then_below hb1).agree).mono ?_
      rw [HW.out]
      rintro e w2 ⟨rfl, hb2⟩
      obtain ⟨g0, g1, g2, g3, g4, g5, g6, g7, g8⟩ := box4 (Below.blk hb2 (Below.blk hb1 B2.out))
      have E1 := ((E0.out.then_below hb1).then_below hb2).store4 hn.out (by omega) (.int .i64 0) (.string ⟨#[]⟩) (.int .i64 0) (.slice none 0 0)
      go_wp2_with fail
      rw [ho.out]
      exact bodyPost_ret (v := .tuple #[.agg #[.int .i64 0, .string ⟨#[]⟩, .int .i64 0, .slice none 0 0], .int .i64 1]) (by simp [results, Try.results88, go_sem, g1, g2, g3, g4]) rfl ⟨H, _, rfl, E1, rep_zero H⟩
    | true =>
      have ho := Lib.hid (show t.contractV u = t.contract u by unfold Tm.contractV; rw [hv, hw]; rfl)
      have h3' := Lib.hid (fun W hW => h3.out W hW hv hw)
      have HV := Lib.hid hv
      have HW := Lib.hid hw
      clear hv hw h3
      go_enter Try.func88, Try.ntmps88
      go_wp2_with fail
      refine (h1.out _ E0.out.agree).mono ?_
      rw [HV.out]
      rintro e w1 ⟨rfl, hb1⟩
      obtain ⟨p0, p1, p2, p3, p4, p5, p6, p7, p8⟩ := box4 (Below.blk hb1 B1.out)
      go_wp2_with fail
      refine (h2.out _ (E0.out.then_below hb1).agree).mono ?_
      rw [HW.out]
      rintro e w2 ⟨rfl, hb2⟩
      obtain ⟨q0, q1, q2, q3, q4, q5, q6, q7, q8⟩ := box4 (Below.blk hb2 (Below.blk hb1 B0.out))
      obtain ⟨r0, r1, r2, r3, r4, r5, r6, r7, r8⟩ := box4 (Below.blk hb2 (Below.blk hb1 B1.out))
      go_wp2_with fail
      refine (h3'.out _ ((E0.out.then_below hb1).then_below hb2).agree).mono ?_
      rintro e w3 ⟨H3, cs3, rfl, X3, R3⟩
      have B3 := Below.blk X3.below (Below.blk hb2 (Below.blk hb1 B2.out))
      obtain ⟨g0, g1, g2, g3, g4, g5, g6, g7, g8⟩ := box4 B3
      have hn3 : H3 (w.heap.size + 1 + 1) = none := (X3.old _ (cell_lt (Below.blk hb2 (Below.blk hb1 B2.out)))).trans hn.out
      have E2 := ((E0.out.then_below hb1).then_below hb2).then X3
      generalize hZ : t.contract u = Z at R3 ⊢
      obtain ⟨Y, Z⟩ := Z
      have HZ := Lib.hid hZ
      clear hZ
      dsimp only at R3 ⊢
      obtain ⟨xa, xc, rfl, -, -, -, -⟩ := R3.open_
      go_wp2_with fail
      have E3 := E2.store4 hn3 (by omega) (.int .i64 Y.k) (.string Y.s) (.int .i64 Y.n) (.slice xa Y.l.length xc)
      rw [ho.out, HZ.out]
      exact bodyPost_ret (v := .tuple #[.agg #[.int .i64 Y.k, .string Y.s, .int .i64 Y.n, .slice xa Y.l.length xc], .int .i64 Z]) (by simp [results, Try.results88, go_sem, g1, g2, g3, g4]) rfl ⟨H3, _, rfl, E3, R3⟩
end Go.Proofs.Ytbdappbmlnpogaa
