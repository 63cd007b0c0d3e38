/- Package store in memory: run, Head. -/
import Derived.Test.YtbdappbmlnpogaaFull
namespace Go.Proofs.Ytbdappbmlnpogaa
open Go Go.RowKit
set_option maxRecDepth 100000
/-- What run is asked of the function that it is given. -/
def RunPost (H : GH) (w : World) (r : Tm × Int × Int) (e : Ending) (w' : World) : Prop :=
  ∃ H' cs', e = .returned (.tuple #[.agg cs'.toArray, .int .i64 r.2.1, .int .i64 r.2.2]) ∧ Pure H w H' w' ∧ Rep H' r.1 cs'
set_option maxHeartbeats 4000000 in
/-- store.run: the function that it is given is fn, bound to the store. -/
theorem store_run (fn : FuncId) (s : Nat) (g : Tm → Int → Tm × Int × Int) (H : GH) (w : World) (t : Tm) (f : Int) (cs : List Value) (hA : Agree H w) (hR : Rep H t cs)
    (hfn : ∀ args w, (callFunc fn args).run Try.prog w = .ok (.enter fn args) w)
    (hg : t.valid = true → ∀ (fb : Nat) (W : World), w.heap.size ≤ fb → Pure H w H W → W.heap[fb]? = some (.cells #[.int .i64 f] 3 (0, 0)) → H fb = none →
      Calls Try.prog fn #[.pointer (some ⟨s, 0, none⟩), .agg cs.toArray, .pointer (some ⟨fb, 0, none⟩)] W (FullPost fb H W (g t f))) :
    Calls Try.prog 33 #[.agg cs.toArray, .int .i64 f, .func (.func fn) #[.pointer (some ⟨s, 0, none⟩)] #[]] w (RunPost H w (St.runV g t f)) := by
  have h1 := Lib.hid (fun W hW => term_Valid t cs H W hR hW)
  obtain ⟨a, cap, rfl, -, -, -, -⟩ := hR.open_
  have E0 := Lib.hid ((((Ext.refl (O := fun _ => False) hA).alloc (tbox t a cap)).alloc (.cells #[.int .i64 f] 3 (0, 0))).alloc zbox)
  have B0 := Lib.hid (show (((w.alloc (tbox t a cap)).alloc (.cells #[.int .i64 f] 3 (0, 0))).alloc zbox).heap[w.heap.size]? = some (tbox t a cap) from Below.blk (below_alloc _ _) (Below.blk (below_alloc _ _) (heap_alloc_new _ _)))
  have B1 := Lib.hid (show (((w.alloc (tbox t a cap)).alloc (.cells #[.int .i64 f] 3 (0, 0))).alloc zbox).heap[w.heap.size + 1]? = some (.cells #[.int .i64 f] 3 (0, 0)) from Below.blk (below_alloc _ _) (heap_alloc_at _ _ _ (by simp)))
  have B2 := Lib.hid (show (((w.alloc (tbox t a cap)).alloc (.cells #[.int .i64 f] 3 (0, 0))).alloc zbox).heap[w.heap.size + 1 + 1]? = some zbox from heap_alloc_at _ _ _ (by simp))
  have n1 : H (w.heap.size + 1) = none := hA.free (by omega)
  have n2 : H (w.heap.size + 1 + 1) = none := hA.free (by omega)
  clear hR
  cases hv : t.valid with
  | false =>
    have ho := Lib.hid (show St.runV g t f = (Tm.zero, 0, 1) by unfold St.runV; rw [if_pos hv])
    have HV := Lib.hid hv
    clear hv hg
    go_enter Try.func33, Try.ntmps33
    go_wp2_with fail
    refine (h1.out _ E0.out.agree).mono ?_
    rw [HV.out]
    rintro e w1 ⟨rfl, hb1⟩
    obtain ⟨q0, q1, q2, q3, q4, q5, q6, q7, q8⟩ := box4 (Below.blk hb1 B2.out)
    have E1 := (E0.out.then_below hb1).store4 n2 (by omega) (.int .i64 0) (.string ⟨#[]⟩) (.int .i64 0) (.slice none 0 0)
    go_wp2_with fail
    refine bodyPost_ret (v := .tuple #[.agg #[.int .i64 0, .string ⟨#[]⟩, .int .i64 0, .slice none 0 0], .int .i64 0, .int .i64 1]) (by simp [results, Try.results33, go_sem, q0, q1, q2, q3, q4]) rfl ?_
    unfold RunPost
    rw [ho.out]
    exact ⟨H, _, rfl, E1, rep_zero H⟩
  | true =>
    have ho := Lib.hid (show St.runV g t f = if (g t f).2.1 ≠ 0 then (Tm.zero, 0, (g t f).2.1) else ((g t f).1, (g t f).2.2, 0) by unfold St.runV; rw [if_neg (by rw [hv]; simp)])
    have hg2 := Lib.hid (hg hv)
    have HV := Lib.hid hv
    clear hv hg
    go_enter Try.func33, Try.ntmps33
    go_wp2_with fail
    refine (h1.out _ E0.out.agree).mono ?_
    rw [HV.out]
    rintro e w1 ⟨rfl, hb1⟩
    have E1 := Lib.hid (E0.out.then_below hb1)
    have C1 := Lib.hid (Below.blk hb1 B1.out)
    have C2 := Lib.hid (Below.blk hb1 B2.out)
    obtain ⟨p0, p1, p2, p3, p4, p5, p6, p7, p8⟩ := box4 (Below.blk hb1 B0.out)
    go_wp2_with fail
    refine (hg2.out (w.heap.size + 1) _ (by omega) E1.out C1.out n1).mono ?_
    unfold FullPost
    generalize g t f = r at *
    obtain ⟨u, er, f2⟩ := r
    dsimp only at ho
    rintro e w2 ⟨H2, ucs, rfl, X2, R2, D1⟩
    dsimp only at R2 D1
    have HR2 := Lib.hid R2
    obtain ⟨ua, uc, rfl, -, -, -, -⟩ := R2.open_
    have E2 := Lib.hid (E1.out.trans X2 (fun k hk h => by omega))
    have D2 := Lib.hid ((X2.block (w.heap.size + 1 + 1) (cell_lt C2.out) (by omega)).trans C2.out)
    have k2 := (X2.old _ (cell_lt C2.out)).trans n2
    obtain ⟨q0, q1, q2, q3, q4, q5, q6, q7, q8⟩ := box4 D2.out
    obtain ⟨g0, g1⟩ := blk_cell D1
    have g2 := cell_lt D1
    clear p0 p1 p2 p3 p4 p5 p6 p7 p8 hg2 X2 D1
    by_cases her : er = 0
    · subst her
      rw [if_neg (by simp)] at ho
      have E3 := Lib.hid (((E2.out.store4 k2 (by omega) (.int .i64 u.k) (.string u.s) (.int .i64 u.n) (.slice ua u.l.length uc)).alloc (tbox u ua uc)).drew)
      go_wp2_with fail
      go_region
      go_wp2_with fail
      refine bodyPost_ret (v := .tuple #[.agg #[.int .i64 u.k, .string u.s, .int .i64 u.n, .slice ua u.l.length uc], .int .i64 f2, .int .i64 0]) (by simp [results, Try.results33, go_sem, q0, q1, q2, q3, q4]) rfl ?_
      unfold RunPost
      rw [ho.out]
      exact ⟨H2, _, rfl, E3.out, HR2.out⟩
    · rw [if_pos her] at ho
      have her' : (er != 0) = true := by rw [bne_iff_ne]; exact her
      have E3 := Lib.hid ((E2.out.store4 k2 (by omega) (.int .i64 0) (.string ⟨#[]⟩) (.int .i64 0) (.slice none 0 0)).alloc (tbox u ua uc))
      go_wp2_with fail
      refine bodyPost_ret (v := .tuple #[.agg #[.int .i64 0, .string ⟨#[]⟩, .int .i64 0, .slice none 0 0], .int .i64 0, .int .i64 er]) (by simp [results, Try.results33, go_sem, q0, q1, q2, q3, q4]) rfl ?_
      unfold RunPost
      rw [ho.out]
      exact ⟨H2, _, rfl, E3.out, rep_zero H2⟩
end Go.Proofs.Ytbdappbmlnpogaa
