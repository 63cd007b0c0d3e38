/- eta.Short, Leaf; clause.Split. -/
import Derived.Test.YtbdappbmlnpogaaShort
namespace Go.Proofs.Ytbdappbmlnpogaa
open Go Go.RowKit
set_option maxRecDepth 100000
/-- Worlds and boxes at the entry of a function whose one argument is a term and whose first result is one. -/
theorem enter1 (t : Tm) (a : Option Addr) (cap : Nat) (H : GH) (w : World) (hA : Agree H w) :
    Pure H w H ((w.alloc (tbox t a cap)).alloc zbox) ∧ ((w.alloc (tbox t a cap)).alloc zbox).heap[w.heap.size]? = some (tbox t a cap) ∧ ((w.alloc (tbox t a cap)).alloc zbox).heap[w.heap.size + 1]? = some zbox ∧ H (w.heap.size + 1) = none :=
  ⟨((Ext.refl (O := fun _ => False) hA).alloc (tbox t a cap)).alloc zbox, Below.blk (below_alloc _ _) (heap_alloc_new _ _), heap_alloc_at _ _ _ (by simp), hA.free (by omega)⟩
def ShortVPost (H : GH) (w : World) (t : Tm) (e : Ending) (w' : World) : Prop := ∃ H' cs', e = .returned (.agg cs'.toArray) ∧ Pure H w H' w' ∧ Rep H' t.shortV cs'
set_option maxHeartbeats 2000000 in
theorem eta_Short (t : Tm) (cs : List Value) (H : GH) (w : World) (hR : Rep H t cs) (hA : Agree H w) (hsz : t.size ≤ SB) :
    Calls Try.prog 35 #[.agg cs.toArray] w (ShortVPost H w t) := by
  have h1 := Lib.hid (fun W hW => term_Valid t cs H W hR hW)
  have h2 := Lib.hid (fun W hW hv => eta_short t cs H W hR hW hv hsz)
  have hR0 := Lib.hid hR
  obtain ⟨a, cap, rfl, -, -, -, -⟩ := hR.open_
  obtain ⟨E0, B0, B1, hn⟩ := enter1 t a cap H w hA
  have E0 := Lib.hid E0
  have B0 := Lib.hid B0
  have B1 := Lib.hid B1
  have hn := Lib.hid hn
  clear hsz hR
  cases hv : t.valid with
  | false =>
    have ho := Lib.hid (show t.shortV = t by unfold Tm.shortV; rw [hv]; rfl)
    have HV := Lib.hid hv
    clear hv
    go_enter Try.func35, Try.ntmps35
    go_wp2_with fail
    refine (h1.out _ E0.out.agree).mono ?_
    rw [HV.out]
    rintro e w1 ⟨rfl, hb1⟩
    obtain ⟨p0, p1, p2, p3, p4, p5, p6, p7, p8⟩ := box4 (Below.blk hb1 B0.out)
    obtain ⟨q0, q1, q2, q3, q4, q5, q6, q7, q8⟩ := box4 (Below.blk hb1 B1.out)
    have E1 := (E0.out.then_below hb1).store4 hn.out (by omega) (.int .i64 t.k) (.string t.s) (.int .i64 t.n) (.slice a t.l.length cap)
    go_wp2_with fail
    refine bodyPost_ret (v := .agg #[.int .i64 t.k, .string t.s, .int .i64 t.n, .slice a t.l.length cap]) (by simp [results, Try.results35, go_sem, q0, q1, q2, q3, q4]) rfl ?_
    refine ⟨H, _, rfl, E1, ?_⟩
    rw [ho.out]
    exact hR0.out
  | true =>
    have ho := Lib.hid (show t.shortV = t.short by unfold Tm.shortV; rw [hv]; rfl)
    have h3 := Lib.hid (fun W hW => h2.out W hW hv)
    have HV := Lib.hid hv
    clear hv h2
    go_enter Try.func35, Try.ntmps35
    go_wp2_with fail
    refine (h1.out _ E0.out.agree).mono ?_
    rw [HV.out]
    rintro e w1 ⟨rfl, hb1⟩
    obtain ⟨p0, p1, p2, p3, p4, p5, p6, p7, p8⟩ := box4 (Below.blk hb1 B0.out)
    go_wp2_with fail
    refine (h3.out _ (E0.out.then_below hb1).agree).mono ?_
    rintro e w3 ⟨H3, cs3, rfl, X3, R3⟩
    have E3 := (E0.out.then_below hb1).then X3
    have q1 := Below.blk hb1 B1.out
    have hn3 : H3 (w.heap.size + 1) = none := (X3.old _ (cell_lt q1)).trans hn.out
    obtain ⟨r0, r1, r2, r3, r4, r5, r6, r7, r8⟩ := box4 (Below.blk X3.below q1)
    generalize hY : t.short = Y at R3
    have HY := Lib.hid hY
    clear hY p1 p2 p3 p4 p5 p6 p7 p8
    obtain ⟨ya, yc, rfl, -, -, -, -⟩ := R3.open_
    have E4 := E3.store4 hn3 (by omega) (.int .i64 Y.k) (.string Y.s) (.int .i64 Y.n) (.slice ya Y.l.length yc)
    go_wp2_with fail
    refine bodyPost_ret (v := .agg #[.int .i64 Y.k, .string Y.s, .int .i64 Y.n, .slice ya Y.l.length yc]) (by simp [results, Try.results35, go_sem, r1, r2, r3, r4]) rfl ?_
    refine ⟨H3, _, rfl, E4, ?_⟩
    rw [ho.out, HY.out]
    exact R3
def LeafPost (H : GH) (w : World) (t : Tm) (e : Ending) (w' : World) : Prop := ∃ H' cs', e = .returned (.tuple #[.agg cs'.toArray, .bool t.leafV.2]) ∧ Pure H w H' w' ∧ Rep H' t.leafV.1 cs'
set_option maxHeartbeats 4000000 in
theorem eta_Leaf (t : Tm) (cs : List Value) (H : GH) (w : World) (hR : Rep H t cs) (hA : Agree H w) (hsz : t.size ≤ SB) :
    Calls Try.prog 44 #[.agg cs.toArray] w (LeafPost H w t) := by
  have h1 := Lib.hid (fun W hW => term_Valid t cs H W hR hW)
  have h2 := Lib.hid (fun W hW hv => eta_short t cs H W hR hW hv hsz)
  obtain ⟨a, cap, rfl, -, -, -, -⟩ := hR.open_
  obtain ⟨E0, B0, B1, hn⟩ := enter1 t a cap H w hA
  have E0 := Lib.hid E0
  have B0 := Lib.hid B0
  have B1 := Lib.hid B1
  have hn := Lib.hid hn
  clear hsz hR
  cases hv : t.valid with
  | false =>
    have ho := Lib.hid (show t.leafV = (Tm.zero, false) by unfold Tm.leafV; rw [hv]; rfl)
    have HV := Lib.hid hv
    clear hv
    go_enter Try.func44, Try.ntmps44
    go_wp2_with fail
    refine (h1.out _ E0.out.agree).mono ?_
    rw [HV.out]
    rintro e w1 ⟨rfl, hb1⟩
    obtain ⟨q0, q1, q2, q3, q4, q5, q6, q7, q8⟩ := box4 (Below.blk hb1 B1.out)
    have E1 := (E0.out.then_below hb1).store4 hn.out (by omega) (.int .i64 0) (.string ⟨#[]⟩) (.int .i64 0) (.slice none 0 0)
    go_wp2_with fail
    refine bodyPost_ret (v := .tuple #[.agg #[.int .i64 0, .string ⟨#[]⟩, .int .i64 0, .slice none 0 0], .bool false]) (by simp [results, Try.results44, go_sem, q0, q1, q2, q3, q4]) rfl ?_
    unfold LeafPost
    rw [ho.out]
    exact ⟨H, _, rfl, E1, rep_zero H⟩
  | true =>
    have ho := Lib.hid (show t.leafV = if t.short.k = 3 ∨ t.short.k = 1 then (t.short, true) else (Tm.zero, false) by unfold Tm.leafV; rw [hv]; rfl)
    have h3 := Lib.hid (fun W hW => h2.out W hW hv)
    have HV := Lib.hid hv
    clear hv h2
    go_enter Try.func44, Try.ntmps44
    go_wp2_with fail
    refine (h1.out _ E0.out.agree).mono ?_
    rw [HV.out]
    rintro e w1 ⟨rfl, hb1⟩
    obtain ⟨p0, p1, p2, p3, p4, p5, p6, p7, p8⟩ := box4 (Below.blk hb1 B0.out)
    go_wp2_with fail
    refine (h3.out _ (E0.out.then_below hb1).agree).mono ?_
    rintro e w3 ⟨H3, cs3, rfl, X3, R3⟩
    have E3 := (E0.out.then_below hb1).then X3
    have q1 := Below.blk hb1 B1.out
    have hn3 : H3 (w.heap.size + 1) = none := (X3.old _ (cell_lt q1)).trans hn.out
    have q3 := Below.blk X3.below q1
    obtain ⟨r0, r1, r2, r3, r4, r5, r6, r7, r8⟩ := box4 q3
    generalize hY : t.short = Y at R3 ho
    clear hY p1 p2 p3 p4 p5 p6 p7 p8
    obtain ⟨ya, yc, rfl, -, -, -, -⟩ := R3.open_
    have E4 := Lib.hid ((E3.store4 hn3 (by omega) (.int .i64 Y.k) (.string Y.s) (.int .i64 Y.n) (.slice ya Y.l.length yc)).alloc (tbox Y ya yc))
    have E5 := Lib.hid ((E3.store4 hn3 (by omega) (.int .i64 0) (.string ⟨#[]⟩) (.int .i64 0) (.slice none 0 0)).alloc (tbox Y ya yc))
    cases h3 : (Y.k == 3) with
    | true =>
      have hout : Hid (t.leafV = (Y, true)) := Lib.hid (by rw [ho.out, if_pos (.inl (beq_iff_eq.1 h3))])
      go_wp2_with fail
      refine bodyPost_ret (v := .tuple #[.agg #[.int .i64 Y.k, .string Y.s, .int .i64 Y.n, .slice ya Y.l.length yc], .bool true]) (by simp [results, Try.results44, go_sem, r0, r1, r2, r3, r4]) rfl ?_
      unfold LeafPost
      rw [hout.out]
      exact ⟨H3, _, rfl, E4.out, R3⟩
    | false =>
      cases h1 : (Y.k == 1) with
      | true =>
        have hout : Hid (t.leafV = (Y, true)) := Lib.hid (by rw [ho.out, if_pos (.inr (beq_iff_eq.1 h1))])
        go_wp2_with fail
        refine bodyPost_ret (v := .tuple #[.agg #[.int .i64 Y.k, .string Y.s, .int .i64 Y.n, .slice ya Y.l.length yc], .bool true]) (by simp [results, Try.results44, go_sem, r0, r1, r2, r3, r4]) rfl ?_
        unfold LeafPost
        rw [hout.out]
        exact ⟨H3, _, rfl, E4.out, R3⟩
      | false =>
        have hout : Hid (t.leafV = (Tm.zero, false)) := Lib.hid (by rw [ho.out, if_neg (by have := beq_eq_false_iff_ne.1 h1; have := beq_eq_false_iff_ne.1 h3; omega)])
        go_wp2_with fail
        refine bodyPost_ret (v := .tuple #[.agg #[.int .i64 0, .string ⟨#[]⟩, .int .i64 0, .slice none 0 0], .bool false]) (by simp [results, Try.results44, go_sem, r0, r1, r2, r3, r4]) rfl ?_
        unfold LeafPost
        rw [hout.out]
        exact ⟨H3, _, rfl, E5.out, rep_zero H3⟩
end Go.Proofs.Ytbdappbmlnpogaa
