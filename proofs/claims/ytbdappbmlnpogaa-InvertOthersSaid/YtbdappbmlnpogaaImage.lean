/- Package invert: image. -/
import Derived.Test.YtbdappbmlnpogaaArgs
namespace Go.Proofs.Ytbdappbmlnpogaa
open Go Go.RowKit
set_option maxRecDepth 100000
theorem idx_lt {α : Type} (p : α → Bool) (l : List α) : ∀ (i : Int), 0 ≤ i → 0 ≤ idx p l i → idx p l i < i + l.length := by
  induction l with
  | nil => intro i _ h; simp [idx] at h
  | cons x xs ih =>
    intro i hi h
    rw [idx] at h ⊢
    split at h
    · rename_i hp; rw [if_pos hp]; simp only [List.length_cons]; omega
    · rename_i hp
      rw [if_neg hp]
      have := ih (i + 1) (by omega) h
      simp only [List.length_cons]; omega
theorem blk4_set2 {w : World} {b : Nat} {v0 v1 v2 v3 u : Value} {T : TypeId} (h : w.heap[b]? = some (.cells #[v0, v1, v2, v3] T (0, 0))) : (w.setCell ⟨b, 2, none⟩ u).heap[b]? = some (.cells #[v0, v1, u, v3] T (0, 0)) := by
  simp [World.setCell, Array.getElem?_modify, h]
theorem blk_far1 {w : World} {b k o : Nat} (u : Value) (h : k ≠ b) : (w.setCell ⟨b, o, none⟩ u).heap[k]? = w.heap[k]? := Below.heap_setCell w ⟨b, o, none⟩ u k h
def ImagePost (H : GH) (w : World) (r : Tm × Bool) (e : Ending) (w' : World) : Prop :=
  ∃ cs', e = .returned (.tuple #[.agg cs'.toArray, .bool r.2]) ∧ Pure H w H w' ∧ Rep H r.1 cs'
set_option maxHeartbeats 16000000 in
theorem invert_image (vb s : Nat) (c : Ic) (la : Option Addr) (lc : Nat) (H : GH) (w : World) (f e : Int) (t : Tm) (cs : List Value) (k : Int) (hA : Agree H w) (hvb : w.heap[vb]? = some (ivbox s c la lc f e)) (hL : Tms H (.slice la c.L.length lc) c.L) (hR : Rep H t cs) (hk0 : 0 ≤ k) (hk1 : k ≤ 1099511627776) (hLn : c.L.length ≤ 1073741824) :
    Calls Try.prog 69 #[.pointer (some ⟨vb, 0, none⟩), .agg cs.toArray, .int .i64 k] w (ImagePost H w (c.image t k)) := by
  have HR := Lib.hid hR
  obtain ⟨a, cap, rfl, -, hn64, hss, hTl⟩ := hR.open_
  obtain ⟨E0, B0, B1, hn⟩ := enter1 t a cap H w hA
  have E0 := Lib.hid E0
  have B0 := Lib.hid B0
  have B1 := Lib.hid B1
  have hn := Lib.hid hn
  have BV := Lib.hid (Below.blk (below_alloc _ zbox) (Below.blk (below_alloc _ (tbox t a cap)) hvb))
  have hz := cell_lt hvb
  obtain ⟨p0, p1, p2, p3, p4, p5, p6, p7, p8⟩ := box4 B0.out
  obtain ⟨q0, q1, q2, q3, q4, q5, q6, q7, q8⟩ := box4 B1.out
  have hidx := Lib.hid (fun u (uc : Value) ub ua uac (hU : Rep H u (tcells u ua uac).toList) W (hW : Agree H W) (hb : W.heap[ub]? = some (tbox u ua uac)) => indexFunc 81 #[.pointer (some ⟨ub, 0, none⟩)] (by intro args w; go_simp) (fun v => v.alike u) H W (.slice la c.L.length lc) c.L hL hW (fun t _ cs' w' hw' hR' => invert_image1 u ua uac ub t cs' H w' hR' hU (Below.blk hw' hb)))
  clear hR hL p5 p6 p7 p8
  have hne : w.heap.size ≠ vb := by omega
  unfold I64 at hn64
  have hpg := Lib.hid (fun (u : Tm) => idx_lt (fun v => v.alike u) c.L 0 (Int.le_refl _))
  have hpm := Lib.hid (fun (u : Tm) => (idx_neg (fun v => v.alike u) c.L 0 (Int.le_refl _)).2)
  cases h3 : (t.k == 3) with
  | true =>
    have h3' : t.k = 3 := beq_iff_eq.1 h3
    by_cases hlt : t.n < k
    · have ho := Lib.hid (show c.image t k = (t, true) by unfold Ic.image; rw [if_pos ⟨h3', hlt⟩])
      have E2 := Lib.hid (((Ext.refl (O := fun _ => False) hA).alloc (tbox t a cap)).alloc (tbox t a cap))
      clear hTl h3'
      go_enter Try.func69, Try.ntmps69
      go_wp2_with fail
      refine bodyPost_ret (v := .tuple #[.agg #[.int .i64 t.k, .string t.s, .int .i64 t.n, .slice a t.l.length cap], .bool true]) (by simp [results, Try.results69, go_sem, q0, q1, q2, q3, q4]) rfl ?_
      rw [ImagePost, ho.out]
      exact ⟨_, rfl, E2.out, HR.out⟩
    · have hw1 := IntWalk.i64_in (t.n - k) (by omega)
      have hY : ∃ Y : Tm, Y = Tm.mk t.k t.s (t.n - k) t.l := ⟨_, rfl⟩
      obtain ⟨Y, hY⟩ := hY
      have hYR : Rep H Y (tcells Y a cap).toList := by
        rw [hY]
        exact Rep.shut HR.out.open_.choose_spec.choose_spec.2.1 (by unfold I64; omega) hss hTl
      have ho := Lib.hid (show c.image t k = if 0 ≤ idx (fun u => u.alike Y) c.L 0 then (leafT 3 (k + c.L.length - 1 - idx (fun u => u.alike Y) c.L 0), true) else (t, false) by
        unfold Ic.image; rw [if_neg (by omega), if_pos h3', ← hY]; simp [h3'])
      have hlen : Y.l.length = t.l.length := by rw [hY]; rfl
      have E2 := Lib.hid (E0.out.alloc (.cells #[.int .i64 t.k, .string t.s, .int .i64 (t.n - k), .slice a t.l.length cap] 30 (0, 0)))
      have B0' := Lib.hid (Below.blk (below_alloc _ (.cells #[.int .i64 t.k, .string t.s, .int .i64 (t.n - k), .slice a t.l.length cap] 30 (0, 0))) B0.out)
      have B1' := Lib.hid (Below.blk (below_alloc _ (.cells #[.int .i64 t.k, .string t.s, .int .i64 (t.n - k), .slice a t.l.length cap] 30 (0, 0))) B1.out)
      have BV' := Lib.hid (Below.blk (below_alloc _ (.cells #[.int .i64 t.k, .string t.s, .int .i64 (t.n - k), .slice a t.l.length cap] 30 (0, 0))) BV.out)
      have BY : (((w.alloc (tbox t a cap)).alloc zbox).alloc (.cells #[.int .i64 t.k, .string t.s, .int .i64 (t.n - k), .slice a t.l.length cap] 30 (0, 0))).heap[w.heap.size + 1 + 1]? = some (tbox Y a cap) := by
        rw [hY]
        exact heap_alloc_at _ _ _ (by simp)
      have hix := Lib.hid (hidx.out Y (.int .i64 0) (w.heap.size + 1 + 1) a cap hYR _ E2.out.agree BY)
      have hg := hpg.out Y
      have hm := hpm.out Y
      generalize idx (fun v => v.alike Y) c.L 0 = P at *
      obtain ⟨v0, v1, v2, v3, v4, v5, v6⟩ := box6 BV'.out
      clear hTl h3' hYR hY hidx hpg hpm BY
      go_enter Try.func69, Try.ntmps69
      go_wp2_with fail
      refine hix.out.mono ?_
      rintro e w3 ⟨rfl, hb3⟩
      have E3 := Lib.hid (E2.out.then_below hb3)
      have B3 := Lib.hid (Below.blk hb3 B0'.out)
      have B4 := Lib.hid (Below.blk hb3 B1'.out)
      have BV3 := Lib.hid (Below.blk hb3 BV'.out)
      obtain ⟨p0, p1, p2, p3, p4, p5, p6, p7, p8⟩ := box4 B3.out
      obtain ⟨q0, q1, q2, q3, q4, q5, q6, q7, q8⟩ := box4 B4.out
      obtain ⟨v0, v1, v2, v3, v4, v5, v6⟩ := box6 BV3.out
      clear hix p5 p6 p7 p8
      by_cases hP : 0 ≤ P
      · have hg' := hg hP
        rw [if_pos hP] at ho
        have hbn := Lib.hid (fun W => invert_bound H W (k + c.L.length - 1 - P) (by unfold I64; omega))
        clear hg
        go_wp2_with fail
        refine (hbn.out _).mono ?_
        rintro e w4 ⟨cs4, rfl, hb4, R4⟩
        have E4 := Lib.hid (E3.out.then_below hb4)
        obtain ⟨q0, q1, q2, q3, q4, q5, q6, q7, q8⟩ := box4 (Below.blk hb4 B4.out)
        have HR4 := Lib.hid R4
        obtain ⟨ya, yc, rfl, -, -, -, -⟩ := R4.open_
        have E5 := Lib.hid (E4.out.store4 hn.out (by omega) (.int .i64 (leafT 3 (k + c.L.length - 1 - P)).k) (.string (leafT 3 (k + c.L.length - 1 - P)).s) (.int .i64 (leafT 3 (k + c.L.length - 1 - P)).n) (.slice ya (leafT 3 (k + c.L.length - 1 - P)).l.length yc))
        generalize hY : leafT 3 (k + c.L.length - 1 - P) = Z at *
        clear hY R4
        go_wp2_with fail
        refine bodyPost_ret (v := .tuple #[.agg #[.int .i64 Z.k, .string Z.s, .int .i64 Z.n, .slice ya Z.l.length yc], .bool true]) (by simp [results, Try.results69, go_sem, q0, q1, q2, q3, q4]) rfl ?_
        rw [ImagePost, ho.out]
        exact ⟨_, rfl, E5.out, HR4.out⟩
      · rw [if_neg hP] at ho
        have h1 : (t.k == 1) = false := by have := beq_iff_eq.1 h3; rw [this]; rfl
        have E5 := Lib.hid (E3.out.store4 hn.out (by omega) (.int .i64 t.k) (.string t.s) (.int .i64 t.n) (.slice a t.l.length cap)).drew
        go_wp2_with fail
        go_region
        go_wp2_with fail
        refine bodyPost_ret (v := .tuple #[.agg #[.int .i64 t.k, .string t.s, .int .i64 t.n, .slice a t.l.length cap], .bool false]) (by simp [results, Try.results69, go_sem, q0, q1, q2, q3, q4]) rfl ?_
        rw [ImagePost, ho.out]
        exact ⟨_, rfl, E5.out, HR.out⟩
  | false =>
    have h3' : ¬ t.k = 3 := beq_eq_false_iff_ne.1 h3
    have ho := Lib.hid (show c.image t k = if 0 ≤ idx (fun u => u.alike t) c.L 0 then (leafT 3 (k + c.L.length - 1 - idx (fun u => u.alike t) c.L 0), true) else (t, (t.k == 1) && decide (t.n ≤ c.lv)) by
      unfold Ic.image; rw [if_neg (by omega), if_neg h3'])
    have E2 := Lib.hid (E0.out.alloc (tbox t a cap))
    have B0' := Lib.hid (Below.blk (below_alloc _ (tbox t a cap)) B0.out)
    have B1' := Lib.hid (Below.blk (below_alloc _ (tbox t a cap)) B1.out)
    have BV' := Lib.hid (Below.blk (below_alloc _ (tbox t a cap)) BV.out)
    have BY : (((w.alloc (tbox t a cap)).alloc zbox).alloc (tbox t a cap)).heap[w.heap.size + 1 + 1]? = some (tbox t a cap) := heap_alloc_at _ _ _ (by simp)
    have hix := Lib.hid (hidx.out t (.int .i64 0) (w.heap.size + 1 + 1) a cap HR.out _ E2.out.agree BY)
    have hg := hpg.out t
    have hm := hpm.out t
    generalize idx (fun v => v.alike t) c.L 0 = P at *
    obtain ⟨v0, v1, v2, v3, v4, v5, v6⟩ := box6 BV'.out
    clear hTl h3' hidx hpg hpm BY
    go_enter Try.func69, Try.ntmps69
    go_wp2_with fail
    refine hix.out.mono ?_
    rintro e w3 ⟨rfl, hb3⟩
    have E3 := Lib.hid (E2.out.then_below hb3)
    have B3 := Lib.hid (Below.blk hb3 B0'.out)
    have B4 := Lib.hid (Below.blk hb3 B1'.out)
    have BV3 := Lib.hid (Below.blk hb3 BV'.out)
    obtain ⟨p0, p1, p2, p3, p4, p5, p6, p7, p8⟩ := box4 B3.out
    obtain ⟨q0, q1, q2, q3, q4, q5, q6, q7, q8⟩ := box4 B4.out
    obtain ⟨v0, v1, v2, v3, v4, v5, v6⟩ := box6 BV3.out
    clear hix p5 p6 p7 p8
    by_cases hP : 0 ≤ P
    · have hg' := hg hP
      rw [if_pos hP] at ho
      have hbn := Lib.hid (fun W => invert_bound H W (k + c.L.length - 1 - P) (by unfold I64; omega))
      clear hg
      go_wp2_with fail
      refine (hbn.out _).mono ?_
      rintro e w4 ⟨cs4, rfl, hb4, R4⟩
      have E4 := Lib.hid (E3.out.then_below hb4)
      obtain ⟨q0, q1, q2, q3, q4, q5, q6, q7, q8⟩ := box4 (Below.blk hb4 B4.out)
      have HR4 := Lib.hid R4
      obtain ⟨ya, yc, rfl, -, -, -, -⟩ := R4.open_
      have E5 := Lib.hid (E4.out.store4 hn.out (by omega) (.int .i64 (leafT 3 (k + c.L.length - 1 - P)).k) (.string (leafT 3 (k + c.L.length - 1 - P)).s) (.int .i64 (leafT 3 (k + c.L.length - 1 - P)).n) (.slice ya (leafT 3 (k + c.L.length - 1 - P)).l.length yc))
      generalize hY : leafT 3 (k + c.L.length - 1 - P) = Z at *
      clear hY R4
      go_wp2_with fail
      refine bodyPost_ret (v := .tuple #[.agg #[.int .i64 Z.k, .string Z.s, .int .i64 Z.n, .slice ya Z.l.length yc], .bool true]) (by simp [results, Try.results69, go_sem, q0, q1, q2, q3, q4]) rfl ?_
      rw [ImagePost, ho.out]
      exact ⟨_, rfl, E5.out, HR4.out⟩
    · rw [if_neg hP] at ho
      have E5 := Lib.hid (E3.out.store4 hn.out (by omega) (.int .i64 t.k) (.string t.s) (.int .i64 t.n) (.slice a t.l.length cap)).drew
      cases h1 : (t.k == 1) with
      | false =>
        rw [h1] at ho
        go_wp2_with fail
        go_region
        go_wp2_with fail
        refine bodyPost_ret (v := .tuple #[.agg #[.int .i64 t.k, .string t.s, .int .i64 t.n, .slice a t.l.length cap], .bool false]) (by simp [results, Try.results69, go_sem, q0, q1, q2, q3, q4]) rfl ?_
        rw [ImagePost, ho.out]
        exact ⟨_, rfl, E5.out, HR.out⟩
      | true =>
        rw [h1] at ho
        by_cases hle : t.n ≤ c.lv
        · rw [decide_eq_true hle] at ho
          go_wp2_with fail
          go_region
          go_wp2_with fail
          refine bodyPost_ret (v := .tuple #[.agg #[.int .i64 t.k, .string t.s, .int .i64 t.n, .slice a t.l.length cap], .bool true]) (by simp [results, Try.results69, go_sem, q0, q1, q2, q3, q4]) rfl ?_
          rw [ImagePost, ho.out]
          exact ⟨_, rfl, E5.out, HR.out⟩
        · rw [decide_eq_false hle] at ho
          go_wp2_with fail
          go_region
          go_wp2_with fail
          refine bodyPost_ret (v := .tuple #[.agg #[.int .i64 t.k, .string t.s, .int .i64 t.n, .slice a t.l.length cap], .bool false]) (by simp [results, Try.results69, go_sem, q0, q1, q2, q3, q4]; omega) rfl ?_
          rw [ImagePost, ho.out]
          exact ⟨_, rfl, E5.out, HR.out⟩
end Go.Proofs.Ytbdappbmlnpogaa
