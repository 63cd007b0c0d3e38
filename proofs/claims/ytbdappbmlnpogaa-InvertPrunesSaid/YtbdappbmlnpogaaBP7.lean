/- eta.drop. eta.short, Short, Leaf; clause.Split. eta.Short, Leaf; clause.Split. clause.Split. Package store on plain data: what variables stand for, steps at the head, all steps. Rows of the call's own, read and written at a place. Package store in memory: New, Fresh, Len, Info. Package store in memory: Fresh. -/
import Derived.Test.YtbdappbmlnpogaaBP6
import Derived.Deep.CutRange
namespace Go.Proofs.Ytbdappbmlnpogaa
open Go Go.RowKit
set_option maxRecDepth 100000
namespace Tm
theorem sizeL_take_le (l : List Tm) (k : Nat) : sizeL (l.take k) ≤ sizeL l := by
  have : sizeL l = sizeL (l.take k) + sizeL (l.drop k) := by rw [← sizeL_append, List.take_append_drop]
  omega
theorem sizeL_drop_le (l : List Tm) (k : Nat) : sizeL (l.drop k) ≤ sizeL l := by
  have : sizeL l = sizeL (l.take k) + sizeL (l.drop k) := by rw [← sizeL_append, List.take_append_drop]
  omega
theorem rest_fit {t : Tm} {S : Nat} {B : Int} (h : Fit S B t) (h6 : t.k = 6) : Fit S B t.rest ∧ t.rest.size < t.size := by
  cases t with
  | mk k s n l =>
    simp only [k_mk] at h6
    subst h6
    have hm := fun u hu => h.mem (u := u) hu
    obtain ⟨-, -, h2, -⟩ := ok1_app.1 ((valid_iff ..).1 h.v).1
    have h0 := hm _ (getD0_mem (by omega : 0 < l.length))
    have hr : ∀ u ∈ (l.take (l.length - 1)).drop 1, u ∈ l := fun u hu => List.mem_of_mem_take (List.mem_of_mem_drop hu)
    unfold rest
    simp only [l_mk]
    have hz : (apply (l.getD 0 zero) ((l.take (l.length - 1)).drop 1)).size < (mk 6 s n l).size := by
      have h1 := (apply_size (l.getD 0 zero) ((l.take (l.length - 1)).drop 1)).1
      rw [size_mk]
      cases l with
      | nil => simp at h2
      | cons x xs =>
        simp only [List.getD_cons_zero, List.length_cons, Nat.add_sub_cancel, sizeL_cons] at h1 ⊢
        obtain ⟨ini, y, rfl⟩ : ∃ ini y, xs = ini ++ [y] := ⟨xs.dropLast, xs.getLast (by intro e; subst e; simp at h2), (List.dropLast_concat_getLast _).symm⟩
        simp only [List.length_append, List.length_cons, List.length_nil, Nat.zero_add, List.take_succ_cons, List.drop_succ_cons, List.drop_zero, sizeL_append, sizeL_cons, sizeL_nil, List.take_left] at h1 ⊢
        have := size_pos y
        omega
    exact ⟨⟨valid_apply h0.v fun u hu => (hm u (hr u hu)).v, by have := h.s; omega, bnd_apply h0.b fun u hu => (hm u (hr u hu)).b⟩, hz⟩
theorem shift_down_fit {t : Tm} {S : Nat} {B : Int} (h : Fit S B t) (hf : t.free 0 = false) : Fit S B (t.shift 0 (-1)) := by
  have h0 : t.occurs 0 = 0 := by
    unfold free at hf
    rw [decide_eq_false_iff_not] at hf
    unfold occursV at hf
    rw [if_pos h.v] at hf
    have := (occurs_le t 0).1
    omega
  have hno : ∀ (t : Tm) (d : Int), t.occurs d = 0 → ∀ p ∈ t.leaves d, ¬ (p.1.k = 3 ∧ p.1.n = p.2) := by
    intro t
    induction t using ind with
    | h k s n l ih =>
      intro d ho p hp
      rw [occurs_mk] at ho
      rw [leaves] at hp
      split at hp
      · rename_i hk
        rw [if_neg (by omega)] at ho
        have hd : (if k = 5 then d + 1 else d) = d + if k = 5 then 1 else 0 := by split <;> omega
        rw [hd] at ho
        revert hp ho
        generalize (d + if k = 5 then 1 else 0) = D
        intro ho hp
        clear hd hk
        induction l with
        | nil => rw [leavesL] at hp; cases hp
        | cons x xs ihx =>
          rw [occursL] at ho
          have a1 := (occurs_le x D).1
          have a2 := occursL_nonneg xs D
          rw [leavesL] at hp
          rcases List.mem_append.1 hp with hp | hp
          · exact ih x (by simp) D (by omega) p hp
          · exact ihx (fun t ht => ih t (by simp [ht])) (by omega) hp
      · have : p = (mk k s n l, d) := by simpa using hp
        subst this
        simp only [k_mk, n_mk]
        intro hc
        rw [if_pos hc] at ho
        omega
  have hn := hno t 0 h0
  refine ⟨valid_walk _ t 0 h.v fun p hp hv => ?_, Nat.le_trans (shift_size _ _ (shp_of_valid t h.v)) h.s, bnd_walk B B _ t 0 h.b fun p hp hb => ?_⟩
  · obtain ⟨-, -, -, -, h5, -⟩ := leaves_valid t 0 h.v p hp
    unfold shiftF
    split
    · rename_i hc
      have := bound_of_valid hv hc.1
      have h6 := hn p hp
      exact valid_moved hv hc.1 (by omega) (by omega)
    · exact hv
  · obtain ⟨-, h2, -⟩ := leaves_valid t 0 h.v p hp
    unfold shiftF
    split
    · refine bnd_moved (B := B) hb (fun e => ?_) h2
      generalize p.1 = q at hb e
      cases q with
      | mk k s n l =>
        have := ((bnd_iff ..).1 hb).1 e
        simp only [n_mk]
        omega
    · exact hb
theorem drop_fit {t : Tm} {S : Nat} {B : Int} (h : Fit S B t) (hd : t.drop.2 = true) : Fit S B t.drop.1 ∧ t.drop.1.size < t.size := by
  unfold drop at hd ⊢
  split at hd
  · simp at hd
  · rename_i h1
    split at hd
    · simp at hd
    · rename_i h2
      rw [if_neg h1, if_neg h2]
      obtain ⟨h3, h4⟩ := rest_fit h (by omega)
      have h5 := shift_down_fit h3 (by simpa using h2)
      have h6 := shift_size 0 (-1) (shp_of_valid _ h3.v)
      exact ⟨h5, by simp only []; omega⟩
theorem shiftL_down {t : Tm} (h : t.valid = true) (hs : t.size ≤ SB) : ∀ p ∈ t.leaves 0, ShiftL 0 (-1) p.1 p.2 := by
  intro p hp
  obtain ⟨h1, h2, h3, h4, h5, h6⟩ := leaves_valid t 0 h p hp
  unfold SB at hs
  refine ⟨fun e => absurd e h4, ?_, ?_, fun e => ?_⟩
  · rw [leaf_size h2]; unfold LB; omega
  · unfold I64; omega
  · have := bound_of_valid h1 e
    unfold I64 far at *
    omega
end Tm
/-- The first k elements. -/
theorem Tms.take {H : GH} {a : Option Addr} {n cap : Nat} {l : List Tm} (h : Tms H (.slice a n cap) l) (k : Nat) (hk : k ≤ n) : Tms H (.slice a k cap) (l.take k) := by
  obtain ⟨a', cap', C, he, h1, h2, h3, h4⟩ := h
  injection he with e1 e2 e3
  subst e1; subst e2; subst e3
  have hl : (l.take k).length = k := by rw [List.length_take]; omega
  refine ⟨a, cap, C, by rw [hl], by omega, h2, fun hn => ?_, fun i x hi => ?_⟩
  · rw [hl] at hn
    obtain ⟨b, o, rfl, g⟩ := h3 (by omega)
    exact ⟨b, o, rfl, fun i hi => g i (by omega)⟩
  · rw [List.getElem?_take] at hi
    split at hi
    · exact h4 i x hi
    · cases hi
/-- The place in the middle of a term's list. -/
def midV (b o m cap : Nat) : Value := .slice (some ⟨b, o + 4, none⟩) (m - 1) (cap - 1)
/-- A store of four cells elsewhere. -/
theorem far4 {w : World} {b g i : Nat} {u0 u1 u2 u3 v : Value} (h : b ≠ g) (hc : w.cell? ⟨b, i, none⟩ = some v) :
    ((((w.setCell ⟨g, 0, none⟩ u0).setCell ⟨g, 1, none⟩ u1).setCell ⟨g, 2, none⟩ u2).setCell ⟨g, 3, none⟩ u3).cell? ⟨b, i, none⟩ = some v := by
  have hh : ∀ j, (⟨g, j, none⟩ : Addr).block ≠ (⟨b, i, none⟩ : Addr).block := fun _ => fun e => h e.symm
  rw [World.cell?_setCell_far _ _ _ _ (hh 3), World.cell?_setCell_far _ _ _ _ (hh 2), World.cell?_setCell_far _ _ _ _ (hh 1), World.cell?_setCell_far _ _ _ _ (hh 0)]
  exact hc
/-- A list's cell and the four cells of its first element. -/
abbrev S5 (g0 : Nat) (v3 : Value) (b o : Nat) (y0 y1 y2 y3 : Value) (w : World) : Prop :=
  w.cell? ⟨g0, 3, none⟩ = some v3 ∧ w.cell? ⟨b, o, none⟩ = some y0 ∧ w.cell? ⟨b, o + 1, none⟩ = some y1 ∧ w.cell? ⟨b, o + 2, none⟩ = some y2 ∧ w.cell? ⟨b, o + 3, none⟩ = some y3
theorem S5.below {g0 : Nat} {v3 : Value} {b o : Nat} {y0 y1 y2 y3 : Value} {w w' : World} (h : S5 g0 v3 b o y0 y1 y2 y3 w) (hb : Below w.heap.size w w') : S5 g0 v3 b o y0 y1 y2 y3 w' := by
  obtain ⟨h0, h1, h2, h3, h4⟩ := h
  exact ⟨cells4 hb (World.block_lt_of_cell? w _ h0) _ h0, cells4 hb (World.block_lt_of_cell? w _ h1) _ h1, cells4 hb (World.block_lt_of_cell? w _ h2) _ h2, cells4 hb (World.block_lt_of_cell? w _ h3) _ h3, cells4 hb (World.block_lt_of_cell? w _ h4) _ h4⟩
theorem S5.alloc {g0 : Nat} {v3 : Value} {b o : Nat} {y0 y1 y2 y3 : Value} {w : World} (h : S5 g0 v3 b o y0 y1 y2 y3 w) (x : Obj) : S5 g0 v3 b o y0 y1 y2 y3 (w.alloc x) := h.below (below_alloc w x)
theorem S5.drew {g0 : Nat} {v3 : Value} {b o : Nat} {y0 y1 y2 y3 : Value} {w : World} (h : S5 g0 v3 b o y0 y1 y2 y3 w) : S5 g0 v3 b o y0 y1 y2 y3 w.drew := h.below (Below.refl _ _).drew
theorem S5.far {g0 : Nat} {v3 : Value} {b o : Nat} {y0 y1 y2 y3 : Value} {w : World} (h : S5 g0 v3 b o y0 y1 y2 y3 w) {g : Nat} (e1 : g0 ≠ g) (e2 : b ≠ g) (u0 u1 u2 u3 : Value) :
    S5 g0 v3 b o y0 y1 y2 y3 ((((w.setCell ⟨g, 0, none⟩ u0).setCell ⟨g, 1, none⟩ u1).setCell ⟨g, 2, none⟩ u2).setCell ⟨g, 3, none⟩ u3) := by
  obtain ⟨h0, h1, h2, h3, h4⟩ := h
  exact ⟨far4 e1 h0, far4 e2 h1, far4 e2 h2, far4 e2 h3, far4 e2 h4⟩
/-- A new box with a term. -/
def CutBox (w : World) (H : GH) (t : Tm) (v : Value) (wx : World) : Prop :=
  ∃ (g : Nat) (H' : GH) (a : Option Addr) (cap : Nat), v = .pointer (some ⟨g, 0, none⟩) ∧ Pure H w H' wx ∧ Rep H' t (tcells t a cap).toList ∧ wx.heap[g]? = some (tbox t a cap) ∧ H' g = none ∧ w.heap.size ≤ g
set_option maxHeartbeats 4000000 in
theorem eta_drop (t : Tm) (cs : List Value) (H : GH) (w : World) (hR : Rep H t cs) (hA : Agree H w) (hv : t.valid = true) (hsz : t.size ≤ SB) :
    Calls Try.prog 80 #[.agg cs.toArray] w fun e w' => ∃ H' cs', e = .returned (.tuple #[.agg cs'.toArray, .bool t.drop.2]) ∧ Pure H w H' w' ∧ Rep H' t.drop.1 cs' := by
  obtain ⟨a, cap, rfl, -, -, -, hT⟩ := hR.open_
  obtain ⟨hl0, hlc, hcm⟩ := hT.len
  unfold maxLen at hcm
  have E0 := Lib.hid (((Ext.refl (O := fun _ => False) hA).alloc (tbox t a cap)).alloc zbox)
  have B1 := Lib.hid (show ((w.alloc (tbox t a cap)).alloc zbox).heap[w.heap.size + 1]? = some zbox from heap_alloc_at _ _ _ (by simp))
  have hn : Hid (H (w.heap.size + 1) = none) := Lib.hid (hA.free (by omega))
  obtain ⟨-, z1, z2, z3, z4, -⟩ := box4 B1.out
  have E1 := Lib.hid (E0.out.store4 hn.out (by omega) (.int .i64 0) (.string ⟨#[]⟩) (.int .i64 0) (.slice none 0 0))
  have fin : ∀ (e : Ending) (w' : World), t.drop = (Tm.zero, false) → e = Ending.returned (.tuple #[.agg #[.int .i64 0, .string ⟨#[]⟩, .int .i64 0, .slice none 0 0], .bool false]) → Pure H w H w' →
      ∃ H' cs', e = .returned (.tuple #[.agg cs'.toArray, .bool t.drop.2]) ∧ Pure H w H' w' ∧ Rep H' t.drop.1 cs' := by
    intro e w' hd he hp
    rw [hd]
    exact ⟨H, _, he, hp, rep_zero H⟩
  have FIN := Lib.hid fin
  clear fin
  have hlen64 := hT.len
  cases h6 : (t.k == 6) with
  | false =>
    have hd := Lib.hid (show t.drop = (Tm.zero, false) by unfold Tm.drop; rw [if_pos (.inl (beq_eq_false_iff_ne.1 h6))])
    have h6' : (t.k != 6) = true := by rw [bne, h6]; rfl
    have hw1 := IntWalk.i64_in ((t.l.length : Int) - 1) (by omega)
    clear hl0 hlen64 hR hT hv hsz
    go_enter Try.func80, Try.ntmps80
    go_wp2_with fail
    exact bodyPost_ret (v := .tuple #[.agg #[.int .i64 0, .string ⟨#[]⟩, .int .i64 0, .slice none 0 0], .bool false]) (by simp [results, Try.results80, go_sem, z1, z2, z3, z4]) rfl (FIN.out _ _ hd.out rfl E0.out)
  | true =>
    have hk : t.k = 6 := beq_iff_eq.1 h6
    have h6' : (t.k != 6) = false := by rw [bne, h6]; rfl
    have hf := Lib.hid (Tm.rest_fit (B := Tm.far) (S := t.size) ⟨hv, Nat.le_refl _, by
      have : ∀ t : Tm, t.valid = true → t.bnd Tm.far = true := by
        intro t
        induction t using Tm.ind with
        | h k s n l ih =>
          intro hv
          obtain ⟨g1, g2⟩ := (Tm.valid_iff ..).1 hv
          exact (Tm.bnd_iff ..).2 ⟨fun e => by subst e; exact (Tm.ok1_bound.1 g1).2.2.1, fun u hu => ih u hu (g2 u hu)⟩
      exact this t hv⟩ hk)
    have h2 : 2 ≤ t.l.length := by
      cases t with
      | mk k s n l => simp only [Tm.k_mk] at hk; subst hk; exact (Tm.ok1_app.1 ((Tm.valid_iff ..).1 hv).1).2.2.1
    obtain ⟨x, hx⟩ : ∃ x, t.l[t.l.length - 1]? = some x := ⟨_, List.getElem?_eq_getElem (by omega)⟩
    obtain ⟨y, hy⟩ : ∃ y, t.l[0]? = some y := ⟨_, List.getElem?_eq_getElem (by omega)⟩
    have hgx : t.l.getD (t.l.length - 1) Tm.zero = x := by rw [List.getD_eq_getElem?_getD, hx]; rfl
    have hgy : t.l.getD 0 Tm.zero = y := by rw [List.getD_eq_getElem?_getD, hy]; rfl
    have hyv : y.valid = true := by
      cases t with
      | mk k s n l => exact ((Tm.valid_iff ..).1 hv).2 y (List.mem_of_getElem? hy)
    obtain ⟨b, o, ycs, rfl, -, hRy, hcy⟩ := hT.get hy
    obtain ⟨b', o', xcs, he, -, hRx, hcx⟩ := hT.get hx
    injection he with he
    injection he with he1 he2
    subst he1; subst he2
    have hTt := (hT.take (t.l.length - 1) (by omega)).drop 1 (by omega)
    have hdr := Lib.hid (show t.drop = if x.k ≠ 3 ∨ x.n ≠ 0 then (Tm.zero, false) else if t.rest.free 0 = true then (Tm.zero, false) else (t.rest.shift 0 (-1), true) by
      unfold Tm.drop; rw [hgx]; simp [hk])
    have hrs := Lib.hid (show t.rest = y.apply ((t.l.take (t.l.length - 1)).drop 1) by unfold Tm.rest; rw [hgy])
    have hap := Lib.hid (fun W hW => term_Apply y ycs ((t.l.take (t.l.length - 1)).drop 1) _ H W hRy hTt hW (Tm.shp_hd6 (Tm.shp_of_valid y hyv)) (by
      rw [← hrs.out]
      have h3 := hf.out.2
      unfold SB at hsz
      have : t.rest.l.length < t.rest.size := by cases t.rest with | mk k s n l => exact Tm.length_lt k s n l
      unfold LB; omega))
    rw [← hrs.out] at hap
    have hfr := Lib.hid (fun cs' H' W hR' hW => eta_Free t.rest 0 cs' H' W hR' hW (by have h3 := hf.out.2; unfold SB at hsz; unfold LB; omega) (by omega) (by omega))
    have hsh := Lib.hid (fun cs' H' W hR' hW => term_Shift t.rest 0 (-1) cs' H' W (Tm.shp_of_valid _ hf.out.1.v) (by have h3 := hf.out.2; unfold SB at hsz; unfold LB; omega) (by have h3 := hf.out.2; have h4 := Tm.shift_size 0 (-1) (Tm.shp_of_valid _ hf.out.1.v); unfold SB at hsz; unfold LB; omega) (Tm.shiftL_down hf.out.1.v (by have h3 := hf.out.2; omega)) hW hR')
    obtain ⟨ya, yc, rfl, -, -, -, -⟩ := hRy.open_
    obtain ⟨xa, xc, rfl, -, -, -, -⟩ := hRx.open_
    have d0 := hA.cell (hcy 0 _ rfl)
    have d1 := hA.cell (hcy 1 _ rfl)
    have d2 := hA.cell (hcy 2 _ rfl)
    have d3 := hA.cell (hcy 3 _ rfl)
    have c0 := hA.cell (hcx 0 _ rfl)
    have c2 := hA.cell (hcx 2 _ rfl)
    obtain ⟨m, hm⟩ : ∃ m, t.l.length = m + 1 := ⟨t.l.length - 1, by omega⟩
    rw [hm] at hap hx c0 c2 hlen64 h2
    simp only [Nat.add_zero, Nat.zero_mul, Nat.zero_add, Nat.add_sub_cancel, ← Nat.add_assoc] at d0 d1 d2 d3 c0 c2 hap h2
    have hbl : b < w.heap.size := World.block_lt_of_cell? w _ d0
    clear hcx hcy hTt hx hy hgx hgy hyv hRx hRy hT hR hl0 hsz
    have hw1 := IntWalk.i64_in ((m + 1 : Int) - 1) (by omega)
    have hm1 : ((m : Int) + 1 - 1) = m := by omega
    have hm2 : (m : Int) < (m : Int) + 1 := by omega
    have hm3 : (0 : Int) < (m : Int) + 1 := by omega
    clear hk
    have B1m := Lib.hid (show ((w.alloc (.cells #[.int .i64 t.k, .string t.s, .int .i64 t.n, .slice (some ⟨b, o, none⟩) (m + 1) cap] 30)).alloc zbox).heap[w.heap.size + 1]? = some zbox from by rw [← hm]; exact B1.out)
    have E0m := Lib.hid (show Pure H w H ((w.alloc (.cells #[.int .i64 t.k, .string t.s, .int .i64 t.n, .slice (some ⟨b, o, none⟩) (m + 1) cap] 30)).alloc zbox) from by rw [← hm]; exact E0.out)
    clear B1 E0 E1
    cases hc3 : (x.k == 3) with
    | false =>
      have hc3' : (x.k != 3) = true := by rw [bne, hc3]; rfl
      have hd : Hid (t.drop = (Tm.zero, false)) := Lib.hid (by rw [hdr.out, if_pos (.inl (beq_eq_false_iff_ne.1 hc3))])
      rw [hm]
      go_enter Try.func80, Try.ntmps80
      go_wp2_with fail
      exact bodyPost_ret (v := .tuple #[.agg #[.int .i64 0, .string ⟨#[]⟩, .int .i64 0, .slice none 0 0], .bool false]) (by simp [results, Try.results80, go_sem, z1, z2, z3, z4]) rfl (FIN.out _ _ hd.out rfl E0m.out)
    | true =>
      have hc3' : (x.k != 3) = false := by rw [bne, hc3]; rfl
      cases hn0 : (x.n == 0) with
      | false =>
        have hn0' : (x.n != 0) = true := by rw [bne, hn0]; rfl
        have hd : Hid (t.drop = (Tm.zero, false)) := Lib.hid (by rw [hdr.out, if_pos (.inr (beq_eq_false_iff_ne.1 hn0))])
        rw [hm]
        go_enter Try.func80, Try.ntmps80
        go_wp2_with fail
        exact bodyPost_ret (v := .tuple #[.agg #[.int .i64 0, .string ⟨#[]⟩, .int .i64 0, .slice none 0 0], .bool false]) (by simp [results, Try.results80, go_sem, z1, z2, z3, z4]) rfl (FIN.out _ _ hd.out rfl E0m.out)
      | true =>
        have hn0' : (x.n != 0) = false := by rw [bne, hn0]; rfl
        have hdr2 : Hid (t.drop = if t.rest.free 0 = true then (Tm.zero, false) else (t.rest.shift 0 (-1), true)) := Lib.hid (by
          rw [hdr.out, if_neg]
          have := beq_iff_eq.1 hc3
          have := beq_iff_eq.1 hn0
          omega)
        have e1 : (1 : Int) ≤ (cap : Int) := by omega
        have e2 : ¬ (cap = 1) := by omega
        have e3 : (1 : Int) ≤ (m : Int) := by omega
        have e4 : (m : Int) ≤ (cap : Int) := by omega
        have e5 : 1 ≤ m := by omega
        have e6 : m ≤ cap := by omega
        have e7 : 1 ≤ cap := by omega
        rw [hm]
        go_enter Try.func80, Try.ntmps80
        have AG1 := Lib.hid E0m.out.drew.agree
        have AG2 := Lib.hid (E0m.out.alloc zbox).drew.agree
        go_upto_region 4 with fail
        go_cut [5] from 32 (fun v wx => CutBox ((w.alloc (.cells #[.int .i64 t.k, .string t.s, .int .i64 t.n, .slice (some ⟨b, o, none⟩) (m + 1) cap] 30)).alloc zbox) H t.rest v wx)
        case first =>
          have hap2 := hap.out
          unfold midV at hap2
          have HAP := Lib.hid hap2
          clear hap2 hap
          have K : S5 w.heap.size (.slice (some ⟨b, o, none⟩) (m + 1) cap) b o (.int .i64 y.k) (.string y.s) (.int .i64 y.n) (.slice ya y.l.length yc) ((w.alloc (.cells #[.int .i64 t.k, .string t.s, .int .i64 t.n, .slice (some ⟨b, o, none⟩) (m + 1) cap] 30)).alloc zbox) := ⟨by go_simp, by go_simp, by go_simp, by go_simp, by go_simp⟩
          have BZ := Lib.hid (show (((w.alloc (.cells #[.int .i64 t.k, .string t.s, .int .i64 t.n, .slice (some ⟨b, o, none⟩) (m + 1) cap] 30)).alloc zbox).alloc zbox).drew.heap[w.heap.size + 1 + 1]? = some zbox from heap_alloc_at _ _ _ (by simp))
          have K0 := K.drew
          have K1 := (K.alloc zbox).drew
          have N1 : w.heap.size ≠ w.heap.size + 1 + 1 := by omega
          have N2 : b ≠ w.heap.size + 1 + 1 := by omega
          go_region_held3 (fun w' => w'.cell? ⟨w.heap.size, 3, none⟩ = some (.slice (some ⟨b, o, none⟩) (m + 1) cap) ∧ w'.cell? ⟨b, o, none⟩ = some (.int .i64 y.k) ∧ w'.cell? ⟨b, o + 1, none⟩ = some (.string y.s) ∧ w'.cell? ⟨b, o + 2, none⟩ = some (.int .i64 y.n) ∧ w'.cell? ⟨b, o + 3, none⟩ = some (.slice ya y.l.length yc)) (with_reducible (first | exact K0 | exact K1 | exact KJ | exact KJ.alloc _ | exact KJ.far N1 N2 _ _ _ _)) (first | (go_at_call 14; ((with_reducible refine (HAP.out _ AG1.out).mono ?_); rintro e w1 ⟨H1, cs1, rfl, X1, R1⟩; obtain ⟨ra, rc, rfl, -, -, -, -⟩ := R1.open_; have KJ := K0.below X1.below)) | (go_at_call 14; ((with_reducible refine (HAP.out _ AG2.out).mono ?_); rintro e w1 ⟨H1, cs1, rfl, X1, R1⟩; obtain ⟨ra, rc, rfl, -, -, -, -⟩ := R1.open_; have KJ := K1.below X1.below; obtain ⟨j0, j1, j2, j3, j4, j5, j6, j7, j8⟩ := box4 (Below.blk X1.below BZ.out))))
          · go_wp2_with fail
            go_meet
            exact ⟨w1.heap.size, H1, ra, rc, rfl, ((Ext.refl E0m.out.agree).drew.then X1).alloc _, R1, heap_alloc_new _ _, X1.agree.free (Nat.le_refl _), X1.size⟩
          · go_wp2_with fail
            go_meet
            have hz : w.heap.size + 1 + 1 < (((w.alloc (.cells #[.int .i64 t.k, .string t.s, .int .i64 t.n, .slice (some ⟨b, o, none⟩) (m + 1) cap] 30)).alloc zbox).alloc zbox).drew.heap.size := by simp
            have hn2 : H1 (w.heap.size + 1 + 1) = none := (X1.old _ hz).trans (hA.free (by omega))
            refine ⟨w.heap.size + 1 + 1, H1, ra, rc, rfl, (((Ext.refl E0m.out.agree).alloc zbox).drew.then X1).store4 hn2 (by simp) _ _ _ _, R1, blk_set4 _ _ _ _ (Below.blk X1.below BZ.out), hn2, by simp⟩
        case rest =>
          obtain ⟨g, H1, ra, rc, rfl, X1, R1, hg, hng, hwg⟩ := hcut
          have E1 := E0m.out.then X1
          obtain ⟨p0, p1, p2, p3, p4, p5, p6, p7, p8⟩ := box4 hg
          have HFR := Lib.hid (fun W hW => hfr.out _ H1 W R1 hW)
          have HSH := Lib.hid (fun W hW => hsh.out _ H1 W R1 hW)
          have q1 := Below.blk X1.below B1m.out
          clear hfr hsh hap R1
          go_wp2_with fail
          refine (HFR.out _ E1.agree).mono ?_
          rintro e w2 ⟨rfl, hb2⟩
          cases hfree : t.rest.free 0 with
          | true =>
            have hd : Hid (t.drop = (Tm.zero, false)) := Lib.hid (by rw [hdr2.out, if_pos hfree])
            obtain ⟨r0, r1, r2, r3, r4, r5, r6, r7, r8⟩ := box4 (Below.blk hb2 q1)
            have hn2 : H1 (w.heap.size + 1) = none := (X1.old _ (by simp)).trans hn.out
            have E2 := (E1.then_below hb2).store4 hn2 (by omega) (.int .i64 0) (.string ⟨#[]⟩) (.int .i64 0) (.slice none 0 0)
            have HF := Lib.hid hfree
            clear hfree
            go_wp2_with fail
            refine bodyPost_ret (v := .tuple #[.agg #[.int .i64 0, .string ⟨#[]⟩, .int .i64 0, .slice none 0 0], .bool false]) (by simp [results, Try.results80, go_sem, r1, r2, r3, r4]) rfl ?_
            rw [hd.out]
            exact ⟨H1, _, rfl, E2, rep_zero H1⟩
          | false =>
            have hd : Hid (t.drop = (t.rest.shift 0 (-1), true)) := Lib.hid (by rw [hdr2.out, if_neg (by rw [hfree]; exact Bool.false_ne_true)])
            obtain ⟨r0, r1, r2, r3, r4, r5, r6, r7, r8⟩ := box4 (Below.blk hb2 hg)
            have HF := Lib.hid hfree
            clear hfree p0 p1 p2 p3 p4 p5 p6 p7 p8
            go_wp2_with fail
            refine (HSH.out _ (E1.then_below hb2).agree).mono ?_
            rintro e w3 ⟨H3, cs3, rfl, X3, R3⟩
            have E3 := (E1.then_below hb2).then X3
            have hq := Below.blk hb2 q1
            obtain ⟨s0, s1, s2, s3, s4, s5, s6, s7, s8⟩ := box4 (Below.blk X3.below hq)
            have hn3 : H3 (w.heap.size + 1) = none := (X3.old _ (cell_lt hq)).trans ((X1.old _ (by simp)).trans hn.out)
            generalize hY : t.rest.shift 0 (-1) = Y at R3
            have HY := Lib.hid hY
            clear hY r0 r1 r2 r3 r4 r5 r6 r7 r8
            obtain ⟨ya', yc', rfl, -, -, -, -⟩ := R3.open_
            have E4 := E3.store4 hn3 (by omega) (.int .i64 Y.k) (.string Y.s) (.int .i64 Y.n) (.slice ya' Y.l.length yc')
            go_wp2_with fail
            refine bodyPost_ret (v := .tuple #[.agg #[.int .i64 Y.k, .string Y.s, .int .i64 Y.n, .slice ya' Y.l.length yc'], .bool true]) (by simp [results, Try.results80, go_sem, s1, s2, s3, s4]) rfl ?_
            rw [hd.out, HY.out]
            exact ⟨H3, _, rfl, E4, R3⟩
end Go.Proofs.Ytbdappbmlnpogaa
namespace Go.Proofs.Ytbdappbmlnpogaa
open Go Go.RowKit
set_option maxRecDepth 100000
namespace Tm
theorem short_mk (k s n l) : (mk k s n l).short = if k = 5 then (if (drop ((shortL l).getD 0 zero)).2 then (drop ((shortL l).getD 0 zero)).1 else lams 1 ((shortL l).getD 0 zero)) else if k = 6 then apply ((shortL l).getD 0 zero) ((shortL l).drop 1) else .mk k s n l := by
  rw [short]
theorem lams_one (t : Tm) : lams 1 t = .mk 5 ByteArray.empty 0 [t] := rfl
theorem short_fit (t : Tm) : ∀ S B, Fit S B t → Fit S B t.short ∧ t.short.size ≤ t.size := by
  induction t using ind with
  | h k s n l ih =>
    intro S B h
    rw [short_mk]
    split
    · rename_i h5
      subst h5
      obtain ⟨-, -, h1⟩ := ok1_lam.1 ((valid_iff ..).1 h.v).1
      obtain ⟨x, rfl⟩ := List.length_eq_one_iff.1 h1
      have hx := ih x (by simp) S B (h.mem (by simp))
      have hsz := h.s
      rw [shortL_map]
      simp only [List.map_cons, List.map_nil, List.getD_cons_zero]
      rw [size_mk] at hsz ⊢
      simp only [sizeL_cons, sizeL_nil] at hsz ⊢
      split
      · rename_i hd
        obtain ⟨h2, h3⟩ := drop_fit hx.1 hd
        exact ⟨h2, by omega⟩
      · rw [lams_one]
        refine ⟨⟨(valid_iff ..).2 ⟨ok1_lam.2 ⟨rfl, rfl, rfl⟩, by simpa using hx.1.v⟩, ?_, (bnd_iff ..).2 ⟨by simp, by simpa using hx.1.b⟩⟩, ?_⟩
        · rw [size_mk]; simp; omega
        · rw [size_mk]; simp; omega
    · split
      · rename_i h5 h6
        subst h6
        obtain ⟨-, -, h2, -⟩ := ok1_app.1 ((valid_iff ..).1 h.v).1
        cases l with
        | nil => simp at h2
        | cons x xs =>
          rw [shortL_map]
          simp only [List.map_cons, List.getD_cons_zero, List.drop_succ_cons, List.drop_zero]
          have hx := ih x (by simp) S B (h.mem (by simp))
          have hxs : ∀ u ∈ xs, Fit S B u.short ∧ u.short.size ≤ u.size := fun u hu => ih u (by simp [hu]) S B (h.mem (by simp [hu]))
          have hss : sizeL (xs.map short) ≤ sizeL xs := by
            clear ih h h2 hx
            induction xs with
            | nil => simp
            | cons y ys ihy =>
              have := ihy (fun u hu => hxs u (by simp [hu]))
              have := (hxs y (by simp)).2
              simp only [List.map_cons, sizeL_cons]; omega
          have h3 := (apply_size x.short (xs.map short)).1
          have hsz := h.s
          rw [size_mk, sizeL_cons] at hsz ⊢
          have hmem : ∀ u ∈ xs.map short, Fit S B u := fun u hu => by
            obtain ⟨y, hy, rfl⟩ := List.mem_map.1 hu
            exact (hxs y hy).1
          exact ⟨⟨valid_apply hx.1.v fun u hu => (hmem u hu).v, by omega, bnd_apply hx.1.b fun u hu => (hmem u hu).b⟩, by omega⟩
      · exact ⟨h, Nat.le_refl _⟩
theorem bnd_far (t : Tm) : t.valid = true → t.bnd far = true := by
  induction t using ind with
  | h k s n l ih =>
    intro hv
    obtain ⟨g1, g2⟩ := (valid_iff ..).1 hv
    exact (bnd_iff ..).2 ⟨fun e => by subst e; exact (ok1_bound.1 g1).2.2.1, fun u hu => ih u hu (g2 u hu)⟩
theorem fit_self {t : Tm} (h : t.valid = true) : Fit t.size far t := ⟨h, Nat.le_refl _, bnd_far t h⟩
theorem shortL_take (l : List Tm) (j : Nat) (x : Tm) (h : l[j]? = some x) : shortL (l.take (j + 1)) = shortL (l.take j) ++ [x.short] := by
  rw [shortL_map, shortL_map, List.take_add_one, h]; simp
end Tm
/-- The relation of short's loop: j parts are done. -/
def ShortRel (H : GH) (w : World) (l : List Tm) (v i : Value) (wr : World) : Prop :=
  ∃ (j : Nat) (Hc : GH), j ≤ l.length ∧ i = .int .i64 j ∧ Pure H w Hc wr ∧ Own Hc wr w.heap.size 30 4 (Rep Hc) v (Tm.shortL (l.take j))
def ShortPost (H : GH) (w : World) (t : Tm) (e : Ending) (w' : World) : Prop := ∃ H' cs', e = .returned (.agg cs'.toArray) ∧ Pure H w H' w' ∧ Rep H' t.short cs'
set_option maxHeartbeats 2000000 in
theorem short_other (t : Tm) (cs : List Value) (H : GH) (w : World) (hR : Rep H t cs) (hA : Agree H w) (h5 : t.k ≠ 5) (h6 : t.k ≠ 6) :
    Calls Try.prog 61 #[.agg cs.toArray] w (ShortPost H w t) := by
  have ho := Lib.hid (show t.short = t by cases t with | mk k s n l => rw [Tm.short_mk, if_neg (show ¬ k = 5 from h5), if_neg (show ¬ k = 6 from h6)])
  have hR0 := Lib.hid hR
  obtain ⟨a, cap, rfl, -, -, -, -⟩ := hR.open_
  clear hR
  have E0 := Lib.hid (((Ext.refl (O := fun _ => False) hA).alloc (tbox t a cap)).alloc zbox)
  have B0 := Lib.hid (show ((w.alloc (tbox t a cap)).alloc zbox).heap[w.heap.size]? = some (tbox t a cap) from Below.blk (below_alloc _ _) (heap_alloc_new _ _))
  have B1 := Lib.hid (show ((w.alloc (tbox t a cap)).alloc zbox).heap[w.heap.size + 1]? = some zbox from heap_alloc_at _ _ _ (by simp))
  have b5 : (t.k == 5) = false := by rw [beq_eq_false_iff_ne]; exact h5
  have b6 : (t.k == 6) = false := by rw [beq_eq_false_iff_ne]; exact h6
  have E1 := Lib.hid ((E0.out).store4 (hA.free (Nat.le_add_right _ 1)) (by omega) (.int .i64 t.k) (.string t.s) (.int .i64 t.n) (.slice a t.l.length cap))
  have E2 := Lib.hid (((Ext.refl (O := fun _ => False) hA).alloc (tbox t a cap)).alloc (tbox t a cap))
  go_enter Try.func61, Try.ntmps61
  go_wp2_with fail
  refine bodyPost_ret (v := .agg #[.int .i64 t.k, .string t.s, .int .i64 t.n, .slice a t.l.length cap]) (by simp [results, Try.results61, go_sem]) rfl ?_
  refine ⟨H, _, rfl, E2.out, ?_⟩
  rw [ho.out]
  exact hR0.out
set_option maxHeartbeats 4000000 in
theorem short_lam (s : ByteArray) (n : Int) (x : Tm) (cs : List Value) (H : GH) (w : World) (hR : Rep H (.mk 5 s n [x]) cs) (hA : Agree H w) (hv : x.valid = true) (hsz : x.size ≤ SB)
    (ih : ∀ (cs : List Value) (H : GH) (w : World), Rep H x cs → Agree H w → Calls Try.prog 61 #[.agg cs.toArray] w (ShortPost H w x)) :
    Calls Try.prog 61 #[.agg cs.toArray] w (ShortPost H w (.mk 5 s n [x])) := by
  have ho := Lib.hid (Tm.short_mk 5 s n [x])
  rw [Tm.shortL_map, if_pos rfl] at ho
  simp only [List.map_cons, List.map_nil, List.getD_cons_zero] at ho
  have hf := (Tm.short_fit x _ _ (Tm.fit_self hv))
  have hdr := Lib.hid (fun cs H w hR hA => eta_drop x.short cs H w hR hA hf.1.v (Nat.le_trans hf.2 hsz))
  have hlm := Lib.hid (fun cs H w hA hR => term_Lams 1 x.short cs H w (by unfold LB; omega) hA hR)
  obtain ⟨a, cap, rfl, hk64, hn64, hss, hT⟩ := hR.open_
  simp only [Tm.k_mk, Tm.s_mk, Tm.n_mk, Tm.l_mk] at *
  obtain ⟨b, o, xcs, rfl, -, hRx, hcx⟩ := hT.get (i := 0) (x := x) rfl
  have hsh := Lib.hid (fun W hW => ih xcs H W hRx hW)
  obtain ⟨xa, xc, rfl, -, -, -, -⟩ := hRx.open_
  have c0 := hA.cell (hcx 0 _ rfl)
  have c1 := hA.cell (hcx 1 _ rfl)
  have c2 := hA.cell (hcx 2 _ rfl)
  have c3 := hA.cell (hcx 3 _ rfl)
  simp only [Nat.add_zero, Nat.zero_mul] at c0 c1 c2 c3
  have hbl : b < w.heap.size := World.block_lt_of_cell? w _ c0
  have Bx : Obj := .cells #[.int .i64 5, .string s, .int .i64 n, .slice (some ⟨b, o, none⟩) 1 cap] 30 (0, 0)
  have E0 := Lib.hid (((Ext.refl (O := fun _ => False) hA).alloc (.cells #[.int .i64 5, .string s, .int .i64 n, .slice (some ⟨b, o, none⟩) 1 cap] 30 (0, 0))).alloc zbox)
  have B1 := Lib.hid (show ((w.alloc (.cells #[.int .i64 5, .string s, .int .i64 n, .slice (some ⟨b, o, none⟩) 1 cap] 30 (0, 0))).alloc zbox).heap[w.heap.size + 1]? = some zbox from heap_alloc_at _ _ _ (by simp))
  have hn1 : Hid (H (w.heap.size + 1) = none) := Lib.hid (hA.free (by omega))
  clear hcx hRx hT hR ih hf
  simp only [List.length_cons, List.length_nil, Nat.zero_add] at *
  go_enter Try.func61, Try.ntmps61
  go_wp2_with fail
  refine (hsh.out _ E0.out.agree).mono ?_
  rintro e w1 ⟨H1, cs1, rfl, X1, R1⟩
  have E1 := E0.out.then X1
  have q1 := Below.blk X1.below B1.out
  have hn2 : H1 (w.heap.size + 1) = none := (X1.old _ (cell_lt B1.out)).trans hn1.out
  have hRS := Lib.hid R1
  generalize hY : x.short = Y at *
  obtain ⟨ya, yc, rfl, -, -, -, -⟩ := R1.open_
  have hdr1 := Lib.hid (fun W hW => hdr.out _ H1 W hRS.out hW)
  have q2 := Lib.hid (heap_alloc_new w1 (tbox Y ya yc))
  have hw2 : w.heap.size + 1 < w1.heap.size := cell_lt q1
  clear R1 hsh c0 c1 c2 c3
  go_wp2_with fail
  refine (hdr1.out _ (E1.agree.alloc _)).mono ?_
  rintro e w2 ⟨H2, cs2, rfl, X2, R2⟩
  have E2 := (E1.alloc (tbox Y ya yc)).then X2
  have q3 := Below.blk X2.below (Below.blk (below_alloc w1 (tbox Y ya yc)) q1)
  have q4 := Below.blk X2.below q2.out
  have hn3 : H2 (w.heap.size + 1) = none := (X2.old _ (by simp; omega)).trans hn2
  generalize hD : Y.drop = D at *
  obtain ⟨D, is⟩ := D
  obtain ⟨da, dc, rfl, -, -, -, -⟩ := R2.open_
  have hY' := Lib.hid hY
  have hD' := Lib.hid hD
  clear hY hD
  have hw3 : w1.heap.size < w2.heap.size := cell_lt q4
  obtain ⟨p0, p1, p2, p3, p4, p5, p6, p7, p8⟩ := box4 q3
  cases is with
  | true =>
    have hout : Hid ((Tm.mk 5 s n [x]).short = D) := Lib.hid (by rw [ho.out]; simp)
    go_wp2_with fail
    have E3 := (E2.store4 hn3 (by omega) (.int .i64 D.k) (.string D.s) (.int .i64 D.n) (.slice da D.l.length dc)).alloc (tbox D da dc)
    refine bodyPost_ret (v := .agg #[.int .i64 D.k, .string D.s, .int .i64 D.n, .slice da D.l.length dc]) (by simp [results, Try.results61, go_sem, p0, p1, p2, p3, p4]) rfl ?_
    refine ⟨H2, _, rfl, E3, ?_⟩
    rw [hout.out]
    exact R2
  | false =>
    have hout : Hid ((Tm.mk 5 s n [x]).short = Tm.lams 1 Y) := Lib.hid (by rw [ho.out]; simp)
    have hlm1 := Lib.hid (fun W hW => hlm.out _ H2 W hW (hRS.out.mono (X2.sub)))
    obtain ⟨r0, r1, r2, r3, r4, r5, r6, r7, r8⟩ := box4 q4
    go_wp2_with fail
    refine (hlm1.out _ (E2.agree.alloc _)).mono ?_
    rintro e w3 ⟨H3, cs3, rfl, X3, R3⟩
    have E3 := (E2.alloc (tbox D da dc)).then X3
    have q5 := Below.blk X3.below (Below.blk (below_alloc w2 (tbox D da dc)) q3)
    have hn4 : H3 (w.heap.size + 1) = none := (X3.old _ (by simp; omega)).trans hn3
    obtain ⟨s0, s1, s2, s3, s4, s5, s6, s7, s8⟩ := box4 q5
    generalize hZ : Tm.lams 1 Y = Z at *
    obtain ⟨za, zc, rfl, -, -, -, -⟩ := R3.open_
    have hZ' := Lib.hid hZ
    clear hZ
    go_wp2_with fail
    have E4 := E3.store4 hn4 (by omega) (.int .i64 Z.k) (.string Z.s) (.int .i64 Z.n) (.slice za Z.l.length zc)
    refine bodyPost_ret (v := .agg #[.int .i64 Z.k, .string Z.s, .int .i64 Z.n, .slice za Z.l.length zc]) (by simp [results, Try.results61, go_sem, s1, s2, s3, s4]) rfl ?_
    refine ⟨H3, _, rfl, E4, ?_⟩
    rw [hout.out]
    exact R3
set_option maxHeartbeats 4000000 in
theorem short_app (s : ByteArray) (n : Int) (l : List Tm) (cs : List Value) (H : GH) (w : World) (hR : Rep H (.mk 6 s n l) cs) (hA : Agree H w) (hv : (Tm.mk 6 s n l).valid = true) (hsz : (Tm.mk 6 s n l).size ≤ SB)
    (ih : ∀ x ∈ l, ∀ (cs : List Value) (H : GH) (w : World), Rep H x cs → Agree H w → Calls Try.prog 61 #[.agg cs.toArray] w (ShortPost H w x)) :
    Calls Try.prog 61 #[.agg cs.toArray] w (ShortPost H w (.mk 6 s n l)) := by
  have ho := Lib.hid (Tm.short_mk 6 s n l)
  rw [if_neg (by omega), if_pos rfl] at ho
  obtain ⟨g1, g2⟩ := (Tm.valid_iff ..).1 hv
  obtain ⟨-, -, hl2, -⟩ := Tm.ok1_app.1 g1
  have hfit := (Tm.short_fit _ _ _ (Tm.fit_self hv)).2
  have hlz : l.length ≤ 1073741824 := by have := Tm.length_lt 6 s n l; unfold SB at hsz; omega
  have hmv : ∀ x ∈ l, x.short.valid = true := fun x hx => (Tm.short_fit x _ _ (Tm.fit_self (g2 x hx))).1.v
  have hlen : ((Tm.mk 6 s n l).short).l.length ≤ LB := by
    have : ((Tm.mk 6 s n l).short).l.length < ((Tm.mk 6 s n l).short).size := by cases (Tm.mk 6 s n l).short with | mk k s n l => exact Tm.length_lt k s n l
    unfold SB at hsz; unfold LB; omega
  have HLEN := Lib.hid hlen
  obtain ⟨a, cap, rfl, hk64, hn64, hss, hT⟩ := hR.open_
  simp only [Tm.k_mk, Tm.s_mk, Tm.n_mk, Tm.l_mk] at *
  obtain ⟨-, hlc, hcm⟩ := hT.len
  unfold maxLen at hcm
  have E0 := Lib.hid (((Ext.refl (O := fun _ => False) hA).alloc (.cells #[.int .i64 6, .string s, .int .i64 n, .slice a l.length cap] 30 (0, 0))).alloc zbox)
  have B1 := Lib.hid (show ((w.alloc (.cells #[.int .i64 6, .string s, .int .i64 n, .slice a l.length cap] 30 (0, 0))).alloc zbox).heap[w.heap.size + 1]? = some zbox from heap_alloc_at _ _ _ (by simp))
  have hn1 : Hid (H (w.heap.size + 1) = none) := Lib.hid (hA.free (by omega))
  have hN64 : (l.length : Int) ≤ 1073741824 := by omega
  clear hv hsz hfit g1 g2 hR hlen
  go_enter Try.func61, Try.ntmps61
  go_wp2_with fail
  go_loopw [6, 32] (fun v i wr => ShortRel H ((w.alloc (.cells #[.int .i64 6, .string s, .int .i64 n, .slice a l.length cap] 30 (0, 0))).alloc zbox) l v i wr) (fun _ i _ => l.length - (intOf i).toNat)
  case atStart => exact ⟨0, H, Nat.zero_le _, rfl, Ext.refl E0.out.agree, Own.nil _ _ _ _ _ _⟩
  case round =>
    obtain ⟨j, Hc, hj, rfl, EC, own⟩ := hrel
    by_cases hlt : j < l.length
    · obtain ⟨x, hx⟩ : ∃ x, l[j]? = some x := ⟨_, List.getElem?_eq_getElem hlt⟩
      obtain ⟨b, o, xcs, rfl, -, hRx, hcell⟩ := hT.get hx
      have hcall := Lib.hid (fun W hW => ih x (List.mem_of_getElem? hx) xcs Hc W (hRx.mono EC.sub) hW)
      have HX := Lib.hid hx
      obtain ⟨xa, xc, rfl, -, -, -, -⟩ := hRx.open_
      have c0 := EC.agree.cell (GH.cell?_mono EC.sub (hcell 0 _ rfl))
      have c1 := EC.agree.cell (GH.cell?_mono EC.sub (hcell 1 _ rfl))
      have c2 := EC.agree.cell (GH.cell?_mono EC.sub (hcell 2 _ rfl))
      have c3 := EC.agree.cell (GH.cell?_mono EC.sub (hcell 3 _ rfl))
      simp only [Nat.add_zero, ← Nat.add_assoc] at c0 c1 c2 c3
      have hbl := World.block_lt_of_cell? wr _ c0
      clear hx hcell
      go_wp2_with fail
      refine (hcall.out _ (EC.agree.alloc _)).mono ?_
      rintro e w2 ⟨H2, cs2, rfl, X2, R2⟩
      have own2 := (own.alloc (tbox x xa xc)).pure X2 (fun _ _ h => Rep.mono X2.sub h)
      have E2 := (EC.alloc (tbox x xa xc)).then X2
      have hlw : (Tm.shortL (l.take j)).length + 1 ≤ 2513169434916 := by rw [Tm.shortL_map, List.length_map, List.length_take]; omega
      have HLW := Lib.hid hlw
      clear hlw hcall X2
      obtain ⟨ya, yc, rfl, -, -, -, -⟩ := R2.open_
      go_wp2_with (at_builtin; refine wpList_own1 rfl _ _ rfl isSl_tms _ rfl w2.heap.size 1 rfl (own2.alloc _) (E2.agree.alloc _) (Nat.le_trans E2.size (by simp)) _ (heap_alloc_new w2 _) _ R2 rfl R2.one (by have := HLW.out; unfold maxLen; omega) (by have := HLW.out; omega) ?_; intro v' w' own' hg' hb')
      go_roundw
      case rel =>
        refine ⟨j + 1, H2, by omega, by go_num, (E2.alloc _).grown hg' own2.free (fun g hg hlt => absurd hlt (Nat.not_lt.2 (own2.lt g hg).1)), ?_⟩
        rw [Tm.shortL_take l j _ HX.out]
        exact own'
      case measure => simp [intOf]; omega
    · have hjl : j = l.length := by omega
      rw [hjl, List.take_length] at own
      obtain ⟨H2, E2, hs2, ho2, hT2⟩ := own.freeze_ext EC (Nat.le_refl _) (fun _ _ h => h.len)
      have hT2 : Tms H2 _ (Tm.shortL l) := Sl.mono (Sub.refl _) (fun _ _ _ h => Rep.mono hs2 h) hT2
      have q1 := Below.blk EC.below B1.out
      have hn2 : H2 (w.heap.size + 1) = none := (ho2 _ (cell_lt B1.out)).trans ((EC.old _ (cell_lt B1.out)).trans hn1.out)
      have EF := E0.out.then E2
      obtain ⟨p0, p1, p2, p3, p4, p5, p6, p7, p8⟩ := box4 q1
      have hlo : (Tm.shortL l).length = l.length := by rw [Tm.shortL_map, List.length_map]
      obtain ⟨X0, hx0⟩ : ∃ x, (Tm.shortL l)[0]? = some x := ⟨_, List.getElem?_eq_getElem (by omega)⟩
      have hX0 : X0.hd6 := by
        rw [Tm.shortL_map, List.getElem?_map] at hx0
        obtain ⟨y, hy, rfl⟩ := Option.map_eq_some_iff.1 hx0
        exact Tm.shp_hd6 (Tm.shp_of_valid _ (hmv y (List.mem_of_getElem? hy)))
      have hg0 : (Tm.shortL l).getD 0 Tm.zero = X0 := by rw [List.getD_eq_getElem?_getD, hx0]; rfl
      rw [hg0] at ho
      obtain ⟨oa, oc, rfl, hoc, hocm⟩ := hT2.form
      obtain ⟨ob, oo, ocs, rfl, -, hR0, hcell0⟩ := hT2.get hx0
      have hTd := hT2.drop 1 (by omega)
      have hap := Lib.hid (fun W hW => term_Apply X0 ocs ((Tm.shortL l).drop 1) _ H2 W hR0 hTd hW hX0 (by rw [← ho.out]; exact HLEN.out))
      rw [← ho.out] at hap
      obtain ⟨ua, uc, rfl, -, -, -, -⟩ := hR0.open_
      have s0 := E2.agree.cell (hcell0 0 _ rfl)
      have s1 := E2.agree.cell (hcell0 1 _ rfl)
      have s2 := E2.agree.cell (hcell0 2 _ rfl)
      have s3 := E2.agree.cell (hcell0 3 _ rfl)
      simp only [Nat.add_zero, Nat.zero_mul, Nat.one_mul] at s0 s1 s2 s3 hap
      have hbo : ob < wr.heap.size := World.block_lt_of_cell? wr _ s0
      clear hx0 hg0 hcell0 hTd hT2 hR0 ho own
      rw [hlo] at hap hoc ⊢
      have e1 : (1 : Int) ≤ (oc : Int) := by omega
      have e2 : ¬ (oc = 1) := by omega
      have e3 : (1 : Int) ≤ (l.length : Int) := by omega
      have e4 : (0 : Int) < (l.length : Int) := by omega
      have e5 : 1 ≤ l.length := by omega
      have e6 : 0 < l.length := by omega
      subst hjl
      go_wp2_with fail
      go_still_tail 5, (by kernel_rfl)
      change wpList _ _ _ _ _ wr.drew
      go_wp2_with fail
      refine (hap.out _ E2.agree.drew).mono ?_
      rintro e w3 ⟨H3, cs3, rfl, X3, R3⟩
      have E3 := EF.drew.then X3
      have q3 := Below.blk (Below.trans ((Below.refl _ wr).drew) X3.below) q1
      have hn3 : H3 (w.heap.size + 1) = none := (X3.old _ p0).trans hn2
      obtain ⟨r0, r1, r2, r3, r4, r5, r6, r7, r8⟩ := box4 q3
      generalize hY : (Tm.mk 6 s n l).short = Y at R3
      have HY := Lib.hid hY
      clear hY p1 p2 p3 p4 p5 p6 p7 p8 s0 s1 s2 s3
      obtain ⟨ya, yc, rfl, -, -, -, -⟩ := R3.open_
      have E4 := E3.store4 hn3 (by omega) (.int .i64 Y.k) (.string Y.s) (.int .i64 Y.n) (.slice ya Y.l.length yc)
      go_wp2_with fail
      refine bodyPost_ret (v := .agg #[.int .i64 Y.k, .string Y.s, .int .i64 Y.n, .slice ya Y.l.length yc]) (by simp [results, Try.results61, go_sem, r1, r2, r3, r4]) rfl ?_
      refine ⟨H3, _, rfl, E4, ?_⟩
      rw [HY.out]
      exact R3
/-- eta.short. -/
theorem eta_short (t : Tm) : ∀ (cs : List Value) (H : GH) (w : World), Rep H t cs → Agree H w → t.valid = true → t.size ≤ SB →
    Calls Try.prog 61 #[.agg cs.toArray] w (ShortPost H w t) := by
  induction t using Tm.ind with
  | h k s n l ih =>
    intro cs H w hR hA hv hsz
    have hz := hsz
    rw [Tm.size_mk] at hz
    have hm : ∀ x ∈ l, ∀ (cs : List Value) (H : GH) (w : World), Rep H x cs → Agree H w → Calls Try.prog 61 #[.agg cs.toArray] w (ShortPost H w x) := fun x hx cs H w hR hA =>
      ih x hx cs H w hR hA (((Tm.valid_iff ..).1 hv).2 x hx) (by have := Tm.size_le_sizeL hx; omega)
    by_cases h5 : k = 5
    · subst h5
      obtain ⟨-, -, h1⟩ := Tm.ok1_lam.1 ((Tm.valid_iff ..).1 hv).1
      obtain ⟨x, rfl⟩ := List.length_eq_one_iff.1 h1
      exact short_lam s n x cs H w hR hA (((Tm.valid_iff ..).1 hv).2 x (by simp)) (by simp at hz; omega) (hm x (by simp))
    · by_cases h6 : k = 6
      · subst h6
        exact short_app s n l cs H w hR hA hv hsz hm
      · exact short_other _ cs H w hR hA h5 h6
end Go.Proofs.Ytbdappbmlnpogaa
namespace Go.Proofs.Ytbdappbmlnpogaa
open Go Go.RowKit
set_option maxRecDepth 100000
/-- Worlds and boxes at the entry of a function whose one argument is a term and whose first result is one. -/
theorem enter1 (t : Tm) (a : Option Addr) (cap : Nat) (H : GH) (w : World) (hA : Agree H w) :
    Pure H w H ((w.alloc (tbox t a cap)).alloc zbox) ∧ ((w.alloc (tbox t a cap)).alloc zbox).heap[w.heap.size]? = some (tbox t a cap) ∧ ((w.alloc (tbox t a cap)).alloc zbox).heap[w.heap.size + 1]? = some zbox ∧ H (w.heap.size + 1) = none :=
  ⟨((Ext.refl (O := fun _ => False) hA).alloc (tbox t a cap)).alloc zbox, Below.blk (below_alloc _ _) (heap_alloc_new _ _), heap_alloc_at _ _ _ (by simp), hA.free (by omega)⟩
def ShortVPost (H : GH) (w : World) (t : Tm) (e : Ending) (w' : World) : Prop := ∃ H' cs', e = .returned (.agg cs'.toArray) ∧ Pure H w H' w' ∧ Rep H' t.shortV cs'
set_option maxHeartbeats 2000000 in
theorem eta_Short (t : Tm) (cs : List Value) (H : GH) (w : World) (hR : Rep H t cs) (hA : Agree H w) (hsz : t.size ≤ SB) :
    Calls Try.prog 35 #[.agg cs.toArray] w (ShortVPost H w t) := by
  have h1 := Lib.hid (fun W hW => term_Valid t cs H W hR hW)
  have h2 := Lib.hid (fun W hW hv => eta_short t cs H W hR hW hv hsz)
  have hR0 := Lib.hid hR
  obtain ⟨a, cap, rfl, -, -, -, -⟩ := hR.open_
  obtain ⟨E0, B0, B1, hn⟩ := enter1 t a cap H w hA
  have E0 := Lib.hid E0
  have B0 := Lib.hid B0
  have B1 := Lib.hid B1
  have hn := Lib.hid hn
  clear hsz hR
  cases hv : t.valid with
  | false =>
    have ho := Lib.hid (show t.shortV = t by unfold Tm.shortV; rw [hv]; rfl)
    have HV := Lib.hid hv
    clear hv
    go_enter Try.func35, Try.ntmps35
    go_wp2_with fail
    refine (h1.out _ E0.out.agree).mono ?_
    rw [HV.out]
    rintro e w1 ⟨rfl, hb1⟩
    obtain ⟨p0, p1, p2, p3, p4, p5, p6, p7, p8⟩ := box4 (Below.blk hb1 B0.out)
    obtain ⟨q0, q1, q2, q3, q4, q5, q6, q7, q8⟩ := box4 (Below.blk hb1 B1.out)
    have E1 := (E0.out.then_below hb1).store4 hn.out (by omega) (.int .i64 t.k) (.string t.s) (.int .i64 t.n) (.slice a t.l.length cap)
    go_wp2_with fail
    refine bodyPost_ret (v := .agg #[.int .i64 t.k, .string t.s, .int .i64 t.n, .slice a t.l.length cap]) (by simp [results, Try.results35, go_sem, q0, q1, q2, q3, q4]) rfl ?_
    refine ⟨H, _, rfl, E1, ?_⟩
    rw [ho.out]
    exact hR0.out
  | true =>
    have ho := Lib.hid (show t.shortV = t.short by unfold Tm.shortV; rw [hv]; rfl)
    have h3 := Lib.hid (fun W hW => h2.out W hW hv)
    have HV := Lib.hid hv
    clear hv h2
    go_enter Try.func35, Try.ntmps35
    go_wp2_with fail
    refine (h1.out _ E0.out.agree).mono ?_
    rw [HV.out]
    rintro e w1 ⟨rfl, hb1⟩
    obtain ⟨p0, p1, p2, p3, p4, p5, p6, p7, p8⟩ := box4 (Below.blk hb1 B0.out)
    go_wp2_with fail
    refine (h3.out _ (E0.out.then_below hb1).agree).mono ?_
    rintro e w3 ⟨H3, cs3, rfl, X3, R3⟩
    have E3 := (E0.out.then_below hb1).then X3
    have q1 := Below.blk hb1 B1.out
    have hn3 : H3 (w.heap.size + 1) = none := (X3.old _ (cell_lt q1)).trans hn.out
    obtain ⟨r0, r1, r2, r3, r4, r5, r6, r7, r8⟩ := box4 (Below.blk X3.below q1)
    generalize hY : t.short = Y at R3
    have HY := Lib.hid hY
    clear hY p1 p2 p3 p4 p5 p6 p7 p8
    obtain ⟨ya, yc, rfl, -, -, -, -⟩ := R3.open_
    have E4 := E3.store4 hn3 (by omega) (.int .i64 Y.k) (.string Y.s) (.int .i64 Y.n) (.slice ya Y.l.length yc)
    go_wp2_with fail
    refine bodyPost_ret (v := .agg #[.int .i64 Y.k, .string Y.s, .int .i64 Y.n, .slice ya Y.l.length yc]) (by simp [results, Try.results35, go_sem, r1, r2, r3, r4]) rfl ?_
    refine ⟨H3, _, rfl, E4, ?_⟩
    rw [ho.out, HY.out]
    exact R3
def LeafPost (H : GH) (w : World) (t : Tm) (e : Ending) (w' : World) : Prop := ∃ H' cs', e = .returned (.tuple #[.agg cs'.toArray, .bool t.leafV.2]) ∧ Pure H w H' w' ∧ Rep H' t.leafV.1 cs'
set_option maxHeartbeats 4000000 in
theorem eta_Leaf (t : Tm) (cs : List Value) (H : GH) (w : World) (hR : Rep H t cs) (hA : Agree H w) (hsz : t.size ≤ SB) :
    Calls Try.prog 44 #[.agg cs.toArray] w (LeafPost H w t) := by
  have h1 := Lib.hid (fun W hW => term_Valid t cs H W hR hW)
  have h2 := Lib.hid (fun W hW hv => eta_short t cs H W hR hW hv hsz)
  obtain ⟨a, cap, rfl, -, -, -, -⟩ := hR.open_
  obtain ⟨E0, B0, B1, hn⟩ := enter1 t a cap H w hA
  have E0 := Lib.hid E0
  have B0 := Lib.hid B0
  have B1 := Lib.hid B1
  have hn := Lib.hid hn
  clear hsz hR
  cases hv : t.valid with
  | false =>
    have ho := Lib.hid (show t.leafV = (Tm.zero, false) by unfold Tm.leafV; rw [hv]; rfl)
    have HV := Lib.hid hv
    clear hv
    go_enter Try.func44, Try.ntmps44
    go_wp2_with fail
    refine (h1.out _ E0.out.agree).mono ?_
    rw [HV.out]
    rintro e w1 ⟨rfl, hb1⟩
    obtain ⟨q0, q1, q2, q3, q4, q5, q6, q7, q8⟩ := box4 (Below.blk hb1 B1.out)
    have E1 := (E0.out.then_below hb1).store4 hn.out (by omega) (.int .i64 0) (.string ⟨#[]⟩) (.int .i64 0) (.slice none 0 0)
    go_wp2_with fail
    refine bodyPost_ret (v := .tuple #[.agg #[.int .i64 0, .string ⟨#[]⟩, .int .i64 0, .slice none 0 0], .bool false]) (by simp [results, Try.results44, go_sem, q0, q1, q2, q3, q4]) rfl ?_
    unfold LeafPost
    rw [ho.out]
    exact ⟨H, _, rfl, E1, rep_zero H⟩
  | true =>
    have ho := Lib.hid (show t.leafV = if t.short.k = 3 ∨ t.short.k = 1 then (t.short, true) else (Tm.zero, false) by unfold Tm.leafV; rw [hv]; rfl)
    have h3 := Lib.hid (fun W hW => h2.out W hW hv)
    have HV := Lib.hid hv
    clear hv h2
    go_enter Try.func44, Try.ntmps44
    go_wp2_with fail
    refine (h1.out _ E0.out.agree).mono ?_
    rw [HV.out]
    rintro e w1 ⟨rfl, hb1⟩
    obtain ⟨p0, p1, p2, p3, p4, p5, p6, p7, p8⟩ := box4 (Below.blk hb1 B0.out)
    go_wp2_with fail
    refine (h3.out _ (E0.out.then_below hb1).agree).mono ?_
    rintro e w3 ⟨H3, cs3, rfl, X3, R3⟩
    have E3 := (E0.out.then_below hb1).then X3
    have q1 := Below.blk hb1 B1.out
    have hn3 : H3 (w.heap.size + 1) = none := (X3.old _ (cell_lt q1)).trans hn.out
    have q3 := Below.blk X3.below q1
    obtain ⟨r0, r1, r2, r3, r4, r5, r6, r7, r8⟩ := box4 q3
    generalize hY : t.short = Y at R3 ho
    clear hY p1 p2 p3 p4 p5 p6 p7 p8
    obtain ⟨ya, yc, rfl, -, -, -, -⟩ := R3.open_
    have E4 := Lib.hid ((E3.store4 hn3 (by omega) (.int .i64 Y.k) (.string Y.s) (.int .i64 Y.n) (.slice ya Y.l.length yc)).alloc (tbox Y ya yc))
    have E5 := Lib.hid ((E3.store4 hn3 (by omega) (.int .i64 0) (.string ⟨#[]⟩) (.int .i64 0) (.slice none 0 0)).alloc (tbox Y ya yc))
    cases h3 : (Y.k == 3) with
    | true =>
      have hout : Hid (t.leafV = (Y, true)) := Lib.hid (by rw [ho.out, if_pos (.inl (beq_iff_eq.1 h3))])
      go_wp2_with fail
      refine bodyPost_ret (v := .tuple #[.agg #[.int .i64 Y.k, .string Y.s, .int .i64 Y.n, .slice ya Y.l.length yc], .bool true]) (by simp [results, Try.results44, go_sem, r0, r1, r2, r3, r4]) rfl ?_
      unfold LeafPost
      rw [hout.out]
      exact ⟨H3, _, rfl, E4.out, R3⟩
    | false =>
      cases h1 : (Y.k == 1) with
      | true =>
        have hout : Hid (t.leafV = (Y, true)) := Lib.hid (by rw [ho.out, if_pos (.inr (beq_iff_eq.1 h1))])
        go_wp2_with fail
        refine bodyPost_ret (v := .tuple #[.agg #[.int .i64 Y.k, .string Y.s, .int .i64 Y.n, .slice ya Y.l.length yc], .bool true]) (by simp [results, Try.results44, go_sem, r0, r1, r2, r3, r4]) rfl ?_
        unfold LeafPost
        rw [hout.out]
        exact ⟨H3, _, rfl, E4.out, R3⟩
      | false =>
        have hout : Hid (t.leafV = (Tm.zero, false)) := Lib.hid (by rw [ho.out, if_neg (by have := beq_eq_false_iff_ne.1 h1; have := beq_eq_false_iff_ne.1 h3; omega)])
        go_wp2_with fail
        refine bodyPost_ret (v := .tuple #[.agg #[.int .i64 0, .string ⟨#[]⟩, .int .i64 0, .slice none 0 0], .bool false]) (by simp [results, Try.results44, go_sem, r0, r1, r2, r3, r4]) rfl ?_
        unfold LeafPost
        rw [hout.out]
        exact ⟨H3, _, rfl, E5.out, rep_zero H3⟩
end Go.Proofs.Ytbdappbmlnpogaa
namespace Go.Proofs.Ytbdappbmlnpogaa
open Go Go.RowKit
set_option maxRecDepth 100000
/-- A row of the call's own, where its block is as it was. -/
theorem Own.heap {α : Type} {H : GH} {w w' : World} {base : Nat} {e : TypeId} {sz : Nat} {P : α → List Value → Prop} {v : Value} {xs : List α} (h : Own H w base e sz P v xs) (hh : ∀ g, v.ownBlock = some g → w'.heap[g]? = w.heap[g]?) : Own H w' base e sz P v xs := by
  obtain ⟨C, hr, hf, hq⟩ := h
  refine ⟨C, ⟨hr.1, ?_⟩, hf, hq⟩
  rcases hr.2 with h0 | ⟨g, cap, cur, rfl, hb, h1, r⟩
  · exact .inl h0
  · exact .inr ⟨g, cap, cur, rfl, hb, (hh g (by simp [Value.ownBlock])).trans h1, r⟩
theorem Own.far4 {α : Type} {H : GH} {w : World} {base : Nat} {e : TypeId} {sz : Nat} {P : α → List Value → Prop} {v : Value} {xs : List α} (h : Own H w base e sz P v xs) {b : Nat} (hb : b < base) (u0 u1 u2 u3 : Value) :
    Own H ((((w.setCell ⟨b, 0, none⟩ u0).setCell ⟨b, 1, none⟩ u1).setCell ⟨b, 2, none⟩ u2).setCell ⟨b, 3, none⟩ u3) base e sz P v xs :=
  h.heap fun g hg => blk_far4 _ _ _ _ (by have := (h.lt g hg).1; omega)
theorem Own.base {α : Type} {H : GH} {w : World} {base base' : Nat} {e : TypeId} {sz : Nat} {P : α → List Value → Prop} {v : Value} {xs : List α} (h : Own H w base e sz P v xs) (hb : base' ≤ base) : Own H w base' e sz P v xs := by
  obtain ⟨C, hr, hf, hq⟩ := h
  refine ⟨C, ⟨hr.1, ?_⟩, hf, hq⟩
  rcases hr.2 with h0 | ⟨g, cap, cur, rfl, hb', r⟩
  · exact .inl h0
  · exact .inr ⟨g, cap, cur, rfl, Nat.le_trans hb hb', r⟩
def SplitPost (H : GH) (w : World) (t : Tm) (e : Ending) (w' : World) : Prop :=
  ∃ cs' v, e = .returned (.tuple #[.agg cs'.toArray, v]) ∧ Pure H w H w' ∧ Rep H t.split.1 cs' ∧ Own H w' w.heap.size 30 4 (Rep H) v t.split.2
set_option maxHeartbeats 4000000 in
theorem clause_Split (t : Tm) (cs : List Value) (H : GH) (w : World) (hR : Rep H t cs) (hA : Agree H w) (hsz : t.size ≤ SB) :
    Calls Try.prog 67 #[.agg cs.toArray] w (SplitPost H w t) := by
  have h1 := Lib.hid (fun W hW => term_Valid t cs H W hR hW)
  have hR0 := Lib.hid hR
  obtain ⟨a, cap, rfl, -, -, -, hT⟩ := hR.open_
  obtain ⟨E0, B0, B1, hn⟩ := enter1 t a cap H w hA
  have E0 := Lib.hid E0
  have B0 := Lib.hid B0
  have B1 := Lib.hid B1
  have hn := Lib.hid hn
  clear hR
  have plain : (t.split = (t, [])) → ∀ w', Pure H w H w' → SplitPost H w t (.returned (.tuple #[.agg #[.int .i64 t.k, .string t.s, .int .i64 t.n, .slice a t.l.length cap], .slice none 0 0])) w' := by
    intro hs w' hp
    refine ⟨_, _, rfl, hp, ?_, ?_⟩
    · rw [hs]; exact hR0.out
    · rw [hs]; exact Own.nil _ _ _ _ _ _
  have PL := Lib.hid plain
  clear plain
  cases h6 : (t.k == 6) with
  | false =>
    have h6' : (t.k != 6) = true := by rw [bne, h6]; rfl
    have ho := Lib.hid (show t.split = (t, []) by unfold Tm.split; rw [if_pos (.inl (beq_eq_false_iff_ne.1 h6))])
    have E2 := Lib.hid (((Ext.refl (O := fun _ => False) hA).alloc (tbox t a cap)).alloc (tbox t a cap))
    clear hT hsz
    go_enter Try.func67, Try.ntmps67
    go_wp2_with fail
    refine bodyPost_ret (v := .tuple #[.agg #[.int .i64 t.k, .string t.s, .int .i64 t.n, .slice a t.l.length cap], .slice none 0 0]) (by simp [results, Try.results67, go_sem]) rfl (PL.out ho.out _ E2.out)
  | true =>
    have h6' : (t.k != 6) = false := by rw [bne, h6]; rfl
    have hk : t.k = 6 := beq_iff_eq.1 h6
    cases hv : t.valid with
    | false =>
      have ho := Lib.hid (show t.split = (t, []) by unfold Tm.split; rw [if_pos (.inr hv)])
      have HV := Lib.hid hv
      clear hv hT hsz hk
      go_enter Try.func67, Try.ntmps67
      go_wp2_with fail
      refine (h1.out _ E0.out.agree).mono ?_
      rw [HV.out]
      rintro e w1 ⟨rfl, hb1⟩
      obtain ⟨p0, p1, p2, p3, p4, p5, p6, p7, p8⟩ := box4 (Below.blk hb1 B0.out)
      obtain ⟨q0, q1, q2, q3, q4, q5, q6, q7, q8⟩ := box4 (Below.blk hb1 B1.out)
      have E1 := (E0.out.then_below hb1).store4 hn.out (by omega) (.int .i64 t.k) (.string t.s) (.int .i64 t.n) (.slice a t.l.length cap)
      go_wp2_with fail
      exact bodyPost_ret (v := .tuple #[.agg #[.int .i64 t.k, .string t.s, .int .i64 t.n, .slice a t.l.length cap], .slice none 0 0]) (by simp [results, Try.results67, go_sem, q0, q1, q2, q3, q4]) rfl (PL.out ho.out _ E1)
    | true =>
      have h2 : 2 ≤ t.l.length := by
        cases t with
        | mk k s n l => simp only [Tm.k_mk] at hk; subst hk; exact (Tm.ok1_app.1 ((Tm.valid_iff ..).1 hv).1).2.2.1
      have hlt : t.l.length < t.size := by cases t with | mk k s n l => exact Tm.length_lt k s n l
      unfold SB at hsz
      obtain ⟨y, hy⟩ : ∃ y, t.l[0]? = some y := ⟨_, List.getElem?_eq_getElem (by omega)⟩
      have hgy : t.l.getD 0 Tm.zero = y := by rw [List.getD_eq_getElem?_getD, hy]; rfl
      have ho := Lib.hid (show t.split = (y, t.l.drop 1) by unfold Tm.split; rw [if_neg (by rw [hv]; simp [hk]), hgy])
      obtain ⟨b, o, ycs, rfl, -, hRy, hcy⟩ := hT.get hy
      have hTd := hT.drop 1 (by omega)
      obtain ⟨-, hlc, hcm⟩ := hT.len
      have hcl := Lib.hid (fun W hW => slices_Clone H W hW _ (t.l.drop 1) hTd (by rw [List.length_drop]; omega))
      have HRY := Lib.hid hRy
      obtain ⟨ya, yc, rfl, -, -, -, -⟩ := hRy.open_
      have d0 := hA.cell (hcy 0 _ rfl)
      have d1 := hA.cell (hcy 1 _ rfl)
      have d2 := hA.cell (hcy 2 _ rfl)
      have d3 := hA.cell (hcy 3 _ rfl)
      simp only [Nat.add_zero, Nat.zero_mul, Nat.one_mul] at d0 d1 d2 d3 hcl
      have hbl : b < w.heap.size := World.block_lt_of_cell? w _ d0
      have HV := Lib.hid hv
      have e1 : (1 : Int) ≤ (cap : Int) := by omega
      have e2 : ¬ (cap = 1) := by omega
      have e3 : (1 : Int) ≤ (t.l.length : Int) := by omega
      have e4 : (0 : Int) < (t.l.length : Int) := by omega
      have e5 : 1 ≤ t.l.length := by omega
      have e6 : 0 < t.l.length := by omega
      have S0 : S5 w.heap.size (.slice (some ⟨b, o, none⟩) t.l.length cap) b o (.int .i64 y.k) (.string y.s) (.int .i64 y.n) (.slice ya y.l.length yc) ((w.alloc (tbox t (some ⟨b, o, none⟩) cap)).alloc zbox) := ⟨(box4 B0.out).2.2.2.2.1, by go_simp, by go_simp, by go_simp, by go_simp⟩
      have S0 := Lib.hid S0
      clear hv hk hy hgy hcy hT hTd hsz hlt
      go_enter Try.func67, Try.ntmps67
      go_wp2_with fail
      refine (h1.out _ E0.out.agree).mono ?_
      rw [HV.out]
      rintro e w1 ⟨rfl, hb1⟩
      obtain ⟨p0, p1, p2, p3, p4, p5, p6, p7, p8⟩ := box4 (Below.blk hb1 B0.out)
      obtain ⟨m0, m1, m2, m3, m4⟩ := S0.out.below hb1
      have E1 := E0.out.then_below hb1
      have hbl1 : b < w1.heap.size := World.block_lt_of_cell? w1 _ m1
      go_wp2_with fail
      have hz1 : w.heap.size + 1 < w1.heap.size := cell_lt (Below.blk hb1 B1.out)
      have K0 := (S0.out.below hb1).drew
      have N1 : w.heap.size ≠ w.heap.size + 1 := by omega
      have N2 : b ≠ w.heap.size + 1 := by omega
      have BQ := Lib.hid (Below.blk hb1 B1.out)
      have AG1 := Lib.hid E1.agree.drew
      have LQ := Lib.hid hz1
      go_region_held3 (fun w' => w'.cell? ⟨w.heap.size, 3, none⟩ = some (.slice (some ⟨b, o, none⟩) t.l.length cap) ∧ w'.cell? ⟨b, o, none⟩ = some (.int .i64 y.k) ∧ w'.cell? ⟨b, o + 1, none⟩ = some (.string y.s) ∧ w'.cell? ⟨b, o + 2, none⟩ = some (.int .i64 y.n) ∧ w'.cell? ⟨b, o + 3, none⟩ = some (.slice ya y.l.length yc)) (with_reducible (first | exact K0 | exact KJ | exact KJ.far N1 N2 _ _ _ _)) (first | (go_at_call 60; ((with_reducible refine (hcl.out _ AG1.out).mono ?_); rintro e w3 ⟨v, rfl, own, hb3⟩; have KJ := K0.below hb3; have q3 := Below.blk (Below.trans ((Below.refl _ w1).drew) hb3) BQ.out; obtain ⟨r0, r1, r2, r3, r4, r5, r6, r7, r8⟩ := box4 q3; obtain ⟨va, vc, rfl, -, -⟩ := own.form)))
      have E3 := E1.drew.then_below hb3
      have E4 := E3.store4 hn.out (by omega) (.int .i64 y.k) (.string y.s) (.int .i64 y.n) (.slice ya y.l.length yc)
      have hlt1 : w.heap.size + 1 < w1.heap.size := cell_lt (Below.blk hb1 B1.out)
      have own4 := (own.far4 (b := w.heap.size + 1) (by simpa using hlt1) (.int .i64 y.k) (.string y.s) (.int .i64 y.n) (.slice ya y.l.length yc)).base (base' := w.heap.size) (by simp; omega)
      clear m0 m1 m2 m3 m4 d0 d1 d2 d3
      go_wp2_with fail
      refine bodyPost_ret (v := .tuple #[.agg #[.int .i64 y.k, .string y.s, .int .i64 y.n, .slice ya y.l.length yc], .slice va (t.l.drop 1).length vc]) (by simp [results, Try.results67, go_sem, r0, r1, r2, r3, r4]) rfl ?_
      refine ⟨_, _, rfl, E4, ?_, ?_⟩
      · rw [ho.out]; exact HRY.out
      · rw [ho.out]; exact own4
end Go.Proofs.Ytbdappbmlnpogaa
namespace Go.Proofs.Ytbdappbmlnpogaa
/-- What is known of a variable. -/
structure Inf where
  lv : Int
  bd : Bool
  vl : Tm
def Inf.zero : Inf := ⟨0, false, Tm.zero⟩
instance : Inhabited Inf := ⟨Inf.zero⟩
structure St where
  V : List Inf
  T : List Int
namespace St
def top0 (n : Int) : Int := if n < 0 then 0 else n
def info (S : St) (x : Int) : Inf × Bool := if x < 0 ∨ (S.V.length : Int) ≤ x then (Inf.zero, false) else (S.V.getD x.toNat Inf.zero, true)
def fresh (S : St) (level : Int) : St := ⟨S.V ++ [⟨top0 level, false, Tm.zero⟩], S.T⟩
def bind (S : St) (x : Int) (t : Tm) : St × Int :=
  if (S.info x).2 = false ∨ (S.info x).1.bd = true ∨ t.valid = false ∨ 0 < t.loose then (S, 1)
  else (⟨S.V.set x.toNat ⟨(S.info x).1.lv, true, t⟩, S.T ++ [x]⟩, 0)
def value (S : St) (t : Tm) : Tm × Bool := ((S.info t.n).1.vl, (t.k == 4) && (S.info t.n).2 && (S.info t.n).1.bd)
/-- One step at the head: the term, is it one, the error. -/
def step (S : St) (t : Tm) : Tm × Bool × Int :=
  if (S.value t).2 then ((S.value t).1, true, 0)
  else if t.k ≠ 6 then (t, false, 0)
  else if (S.value (t.l.getD 0 Tm.zero)).2 then (Tm.apply (S.value (t.l.getD 0 Tm.zero)).1 (t.l.drop 1), true, 0)
  else if (t.l.getD 0 Tm.zero).k ≠ 5 then (t, false, 0)
  else (Tm.apply (Tm.contractV ((t.l.getD 0 Tm.zero).l.getD 0 Tm.zero) (t.l.getD 1 Tm.zero)).1 (t.l.drop 2), true, (Tm.contractV ((t.l.getD 0 Tm.zero).l.getD 0 Tm.zero) (t.l.getD 1 Tm.zero)).2)
/-- All steps at the head: the term, the error, the fuel that is left. -/
def headF (S : St) : Nat → Tm → Int → Tm × Int × Int
  | 0, t, f => if (S.step t).2.1 = false then (t, 0, f) else (Tm.zero, 80, f)
  | m + 1, t, f => if (S.step t).2.1 = false then (t, 0, f) else if (S.step t).2.2 ≠ 0 ∨ f ≤ 0 then (Tm.zero, 80, f) else headF S m (S.step t).1 (f - 1)
def head (S : St) (t : Tm) (f : Int) : Tm × Int × Int := headF S f.toNat t f
theorem head_eq (S : St) (t : Tm) (f : Int) : S.head t f = if (S.step t).2.1 = false then (t, 0, f) else if (S.step t).2.2 ≠ 0 ∨ f ≤ 0 then (Tm.zero, 80, f) else S.head (S.step t).1 (f - 1) := by
  unfold head
  by_cases hf : f ≤ 0
  · rw [show f.toNat = 0 by omega, headF]
    split
    · rfl
    · rw [if_pos (.inr hf)]
  · obtain ⟨m, hm⟩ : ∃ m, f.toNat = m + 1 := ⟨f.toNat - 1, by omega⟩
    rw [hm, headF, show (f - 1).toNat = m by omega]
/-- Something for all terms of a list, one after the other, behind those that are done. -/
def mapF (g : Tm → Int → Tm × Int × Int) : List Tm → List Tm → Int → List Tm × Int × Int
  | acc, [], f => (acc, 0, f)
  | acc, t :: ts, f => if (g t f).2.1 ≠ 0 then ([], (g t f).2.1, (g t f).2.2) else mapF g (acc ++ [(g t f).1]) ts (g t f).2.2
/-- The kids that are done, behind those that are left as they are. -/
def kidsF (g : Tm → Int → Tm × Int × Int) (t : Tm) (f : Int) : List Tm × Int × Int :=
  if t.k = 6 then mapF g (t.l.take 1) (t.l.drop 1) f else mapF g [] t.l f
theorem kidsF_mk (g : Tm → Int → Tm × Int × Int) (k : Int) (s : ByteArray) (n : Int) (l : List Tm) (f : Int) : kidsF g (.mk k s n l) f = if k = 6 then mapF g (l.take 1) (l.drop 1) f else mapF g [] l f := rfl
def fullF (S : St) : Nat → Tm → Int → Tm × Int × Int
  | 0, _, f => (Tm.zero, 80, f)
  | m + 1, t, f =>
    if f ≤ 0 then (Tm.zero, 80, f)
    else if (S.head t (f - 1)).2.1 ≠ 0 then (Tm.zero, (S.head t (f - 1)).2.1, (S.head t (f - 1)).2.2)
    else if (kidsF (fullF S m) (S.head t (f - 1)).1 (S.head t (f - 1)).2.2).2.1 ≠ 0 then (Tm.zero, (kidsF (fullF S m) (S.head t (f - 1)).1 (S.head t (f - 1)).2.2).2)
    else (.mk (S.head t (f - 1)).1.k (S.head t (f - 1)).1.s (S.head t (f - 1)).1.n (kidsF (fullF S m) (S.head t (f - 1)).1 (S.head t (f - 1)).2.2).1, (kidsF (fullF S m) (S.head t (f - 1)).1 (S.head t (f - 1)).2.2).2)
def full (S : St) (t : Tm) (f : Int) : Tm × Int × Int := fullF S f.toNat t f
def runV (g : Tm → Int → Tm × Int × Int) (t : Tm) (f : Int) : Tm × Int × Int :=
  if t.valid = false then (Tm.zero, 0, 1) else if (g t f).2.1 ≠ 0 then (Tm.zero, 0, (g t f).2.1) else ((g t f).1, (g t f).2.2, 0)
/-- Head: the term, the fuel that is left, the error. -/
def Head (S : St) (t : Tm) (f : Int) : Tm × Int × Int := runV S.head t f
def Full (S : St) (t : Tm) (f : Int) : Tm × Int × Int :=
  if (runV S.full t f).2.2 ≠ 0 then (Tm.zero, 0, (runV S.full t f).2.2) else ((runV S.full t f).1.shortV, (runV S.full t f).2.1, 0)

/-! ### sizes -/
/-- What variables stand for is valid, and of bounded size and numbers. -/
def Ok (S : St) (M : Nat) (B : Int) : Prop := 4097 ≤ M ∧ ∀ i ∈ S.V, i.bd = true → Tm.Fit M B i.vl
theorem info_mem {S : St} {x : Int} (h : (S.info x).2 = true) : (S.info x).1 ∈ S.V := by
  unfold info at h ⊢
  split at h
  · simp at h
  · rename_i hx
    rw [if_neg hx]
    have hl : x.toNat < S.V.length := by omega
    simp only [List.getD_eq_getElem?_getD, List.getElem?_eq_getElem hl]
    exact List.getElem_mem hl
theorem value_fit {S : St} {M : Nat} {B : Int} (h : S.Ok M B) {t : Tm} (hv : (S.value t).2 = true) : Tm.Fit M B (S.value t).1 := by
  unfold value at hv ⊢
  simp only [Bool.and_eq_true] at hv
  exact h.2 _ (info_mem hv.1.2) hv.2
open Tm in
theorem step_fit {S : St} {M : Nat} {B : Int} (h : S.Ok M B) {t : Tm} (ht : Fit t.size B t) (hz : t.size ≤ SB) (hB : B + SB ≤ far) (h1 : (S.step t).2.1 = true) (h2 : (S.step t).2.2 = 0) :
    Fit (t.size + M) (B + SB) (S.step t).1 := by
  have hM := h.1
  cases t with
  | mk k s n l =>
    unfold step at h1 h2 ⊢
    split
    · rename_i hv
      exact (value_fit h hv).mono (by omega) (by omega)
    · rename_i hv
      rw [if_neg hv] at h1 h2
      split at h1
      · simp at h1
      · rename_i h6
        simp only [k_mk, ne_eq, Decidable.not_not] at h6
        subst h6
        simp only [k_mk, l_mk, ne_eq, not_true_eq_false, ↓reduceIte] at h1 h2 ⊢
        obtain ⟨-, -, hl, -⟩ := ok1_app.1 ((valid_iff ..).1 ht.v).1
        have hsz := ht.s
        rw [size_mk] at hsz hz ⊢
        have hm := fun u hu => (ht.mem (u := u) hu)
        cases l with
        | nil => simp at hl
        | cons x xs =>
          simp only [List.getD_cons_zero, List.drop_succ_cons, List.drop_zero, sizeL_cons] at h1 h2 hsz hz ⊢
          split
          · rename_i hv
            have hf := value_fit h hv
            have hs := (apply_size (S.value x).1 xs).1
            have := hf.s
            have := size_pos x
            exact ⟨valid_apply hf.v fun u hu => (hm u (by simp [hu])).v, by show (apply (S.value x).1 xs).size ≤ _; omega, bnd_mono (by omega) _ (bnd_apply hf.b fun u hu => (hm u (by simp [hu])).b)⟩
          · rename_i hv
            rw [if_neg hv] at h1 h2
            split at h1
            · simp at h1
            · rename_i h5
              rw [if_neg h5] at h2
              rw [if_neg h5]
              simp only [ne_eq, Decidable.not_not] at h5
              cases xs with
              | nil => simp at hl
              | cons y ys =>
                simp only [List.getD_cons_succ, List.getD_cons_zero, List.drop_succ_cons, List.drop_zero, sizeL_cons] at h1 h2 hsz hz ⊢
                have hx := hm x (by simp)
                have hy := hm y (by simp)
                cases x with
                | mk xk xq xn xl =>
                  simp only [k_mk, l_mk] at h5 h2 ⊢
                  subst h5
                  obtain ⟨-, -, h1l⟩ := ok1_lam.1 ((valid_iff ..).1 hx.v).1
                  obtain ⟨b, rfl⟩ := List.length_eq_one_iff.1 h1l
                  simp only [List.getD_cons_zero] at h2 ⊢
                  have hb := hx.mem (u := b) (by simp)
                  have hc : contractV b y = contract b y := by unfold contractV; rw [if_pos ⟨hb.v, hy.v⟩]
                  rw [hc] at h2 ⊢
                  obtain ⟨c1, c2⟩ := contract_size hb.v hy.v h2
                  rw [c2]
                  have hsb : (Tm.mk 5 xq xn [b]).size = 1 + b.size := by rw [size_mk]; simp
                  have hb2 : Fit SB B b := ⟨hb.v, by rw [hsb] at hz; omega, hb.b⟩
                  have hy2 : Fit SB B y := ⟨hy.v, by omega, hy.b⟩
                  obtain ⟨c3, c4⟩ := subst_fit hb2 hy2 hB
                  have hs := (apply_size (b.subst 0 y) ys).1
                  have := size_pos y
                  exact ⟨valid_apply c3 fun u hu => (hm u (by simp [hu])).v, by show (apply (b.subst 0 y) ys).size ≤ _; omega, bnd_apply c4 fun u hu => bnd_mono (by omega) _ (hm u (by simp [hu])).b⟩
open Tm in
theorem head_fit (S : St) (M : Nat) : ∀ (n : Nat) (B : Int) (t : Tm) (f : Int), f.toNat = n → S.Ok M B → t.valid = true → t.bnd B = true → t.size + n * M ≤ SB → B + n * SB ≤ far → (S.head t f).2.1 = 0 →
    (S.head t f).1.valid = true ∧ (S.head t f).2.2 ≤ f ∧ (0 ≤ f → 0 ≤ (S.head t f).2.2) ∧ (S.head t f).1.size + (S.head t f).2.2.toNat * M ≤ t.size + n * M ∧ (S.head t f).1.bnd (B + (n - (S.head t f).2.2.toNat : Nat) * SB) = true := by
  intro n
  induction n with
  | zero =>
    intro B t f hf hS hv hb hs hB h0
    rw [head_eq] at h0 ⊢
    split
    · simp only []
      exact ⟨hv, Int.le_refl _, id, by rw [hf]; exact Nat.le_refl _, by simpa using hb⟩
    · rename_i h1
      rw [if_neg h1, if_pos (.inr (by omega))] at h0
      simp at h0
  | succ n ih =>
    intro B t f hf hS hv hb hs hB h0
    rw [head_eq] at h0 ⊢
    rw [Nat.succ_mul] at hs ⊢
    have hB' : B + (n * SB + SB : Nat) ≤ far := by rw [← Nat.succ_mul]; exact_mod_cast hB
    split
    · simp only []
      rw [hf, Nat.succ_mul]
      exact ⟨hv, Int.le_refl _, id, Nat.le_refl _, bnd_mono (by simp) _ hb⟩
    · rename_i h1
      rw [if_neg h1] at h0
      split at h0
      · simp at h0
      · rename_i h2
        rw [if_neg h2]
        have hh1 : (S.step t).2.1 = true := by simpa using h1
        have hh2 : (S.step t).2.2 = 0 ∧ 0 < f := by
          constructor
          · exact Decidable.byContradiction fun h => h2 (.inl h)
          · exact Decidable.byContradiction fun h => h2 (.inr (by omega))
        have hst := step_fit hS (t := t) ⟨hv, Nat.le_refl _, hb⟩ (by omega) (by omega) hh1 hh2.1
        have hst1 := hst.s
        have hS' : S.Ok M (B + SB) := ⟨hS.1, fun i hi hbd => (hS.2 i hi hbd).mono (Nat.le_refl _) (by omega)⟩
        obtain ⟨r1, r2, r3, r4, r5⟩ := ih (B + SB) (S.step t).1 (f - 1) (by omega) hS' hst.v hst.b (by omega) (by push_cast at hB' ⊢; omega) h0
        refine ⟨r1, by omega, fun _ => r3 (by omega), by omega, ?_⟩
        have e : B + SB + ((n - (S.head (S.step t).1 (f - 1)).2.2.toNat : Nat) : Int) * SB = B + ((n + 1 - (S.head (S.step t).1 (f - 1)).2.2.toNat : Nat) : Int) * SB := by
          have : (S.head (S.step t).1 (f - 1)).2.2.toNat ≤ n := by omega
          rw [show n + 1 - (S.head (S.step t).1 (f - 1)).2.2.toNat = (n - (S.head (S.step t).1 (f - 1)).2.2.toNat) + 1 by omega]
          push_cast
          rw [Int.add_mul]
          omega
        rw [← e]
        exact r5
/-- What is asked of a function that goes through terms. -/
def GoodF (M : Nat) (B : Int) (n : Nat) (g : Tm → Int → Tm × Int × Int) : Prop :=
  ∀ (t : Tm) (f : Int), f.toNat ≤ n → t.valid = true → t.bnd B = true → t.size + f.toNat * M ≤ SB → (g t f).2.1 = 0 →
    (g t f).1.valid = true ∧ (g t f).2.2 ≤ f ∧ 0 ≤ (g t f).2.2 ∧ (g t f).1.size + (g t f).2.2.toNat * M ≤ t.size + f.toNat * M ∧ (g t f).1.bnd (B + f.toNat * SB) = true
open Tm in
theorem mapF_fit {M : Nat} {B : Int} {n : Nat} {g : Tm → Int → Tm × Int × Int} (hg : GoodF M B n g) : ∀ (ts acc : List Tm) (f : Int), f.toNat ≤ n → 0 ≤ f → (∀ u ∈ ts, u.valid = true ∧ u.bnd B = true) → sizeL ts + f.toNat * M ≤ SB → (mapF g acc ts f).2.1 = 0 →
    ∃ res, (mapF g acc ts f).1 = acc ++ res ∧ res.length = ts.length ∧ (∀ u ∈ res, u.valid = true ∧ u.bnd (B + f.toNat * SB) = true) ∧ (mapF g acc ts f).2.2 ≤ f ∧ 0 ≤ (mapF g acc ts f).2.2 ∧ sizeL res + (mapF g acc ts f).2.2.toNat * M ≤ sizeL ts + f.toNat * M := by
  intro ts
  induction ts with
  | nil =>
    intro acc f _ h0 _ _ _
    exact ⟨[], by simp [mapF], rfl, by simp, by simp [mapF], by simpa [mapF] using h0, by simp [mapF]⟩
  | cons x xs ih =>
    intro acc f hf h0 hu hs he
    rw [mapF] at he ⊢
    split at he
    · rename_i h1
      simp only [ne_eq] at h1
      exact absurd he h1
    · rename_i h1
      rw [if_neg h1]
      simp only [ne_eq, Decidable.not_not] at h1
      rw [sizeL_cons] at hs ⊢
      obtain ⟨a1, a2, a3, a4, a5⟩ := hg x f hf (hu x (by simp)).1 (hu x (by simp)).2 (by omega) h1
      have hle : (g x f).2.2.toNat ≤ f.toNat := by omega
      have hx := size_pos (g x f).1
      obtain ⟨res, b1, b2, b3, b4, b5, b6⟩ := ih (acc ++ [(g x f).1]) (g x f).2.2 (by omega) a3 (fun u h => hu u (by simp [h])) (by omega) he
      have hmm : ((g x f).2.2.toNat : Int) * SB ≤ f.toNat * SB := Int.mul_le_mul_of_nonneg_right (by omega) (by omega)
      refine ⟨(g x f).1 :: res, by rw [b1]; simp, by simp [b2], fun u hu' => ?_, by omega, b5, by rw [sizeL_cons]; omega⟩
      rcases List.mem_cons.1 hu' with rfl | h
      · exact ⟨a1, a5⟩
      · exact ⟨(b3 u h).1, bnd_mono (by omega) _ (b3 u h).2⟩
theorem Ok.mono {S : St} {M : Nat} {B B' : Int} (h : S.Ok M B) (hB : B ≤ B') : S.Ok M B' := ⟨h.1, fun i hi hb => (h.2 i hi hb).mono (Nat.le_refl _) hB⟩
/-- What head gives, in one. -/
structure HeadOk (S : St) (M : Nat) (B : Int) (t : Tm) (f : Int) : Prop where
  v : (S.head t f).1.valid = true
  le : (S.head t f).2.2 ≤ f
  nn : 0 ≤ f → 0 ≤ (S.head t f).2.2
  sz : (S.head t f).1.size + (S.head t f).2.2.toNat * M ≤ t.size + f.toNat * M
  b : (S.head t f).1.bnd (B + (f.toNat - (S.head t f).2.2.toNat : Nat) * SB) = true
open Tm in
theorem head_ok {S : St} {M : Nat} {B : Int} {t : Tm} {f : Int} (hS : S.Ok M B) (hv : t.valid = true) (hb : t.bnd B = true) (hs : t.size + f.toNat * M ≤ SB) (hB : B + f.toNat * SB ≤ far) (h0 : (S.head t f).2.1 = 0) : HeadOk S M B t f := by
  obtain ⟨a1, a2, a3, a4, a5⟩ := head_fit S M f.toNat B t f rfl hS hv hb hs hB h0
  exact ⟨a1, a2, a3, a4, a5⟩
theorem toNat_sub_mul (a b : Nat) (h : b ≤ a) (c : Nat) : ((a - b : Nat) : Int) * c + b * c = a * c := by
  rw [← Int.add_mul]
  congr 1
  omega
open Tm in
/-- What is made of a head and of its kids. -/
theorem rebuild_fit {k : Int} {s : ByteArray} {n : Int} {l out : List Tm} {B : Int} (hv : (Tm.mk k s n l).valid = true) (hb : (Tm.mk k s n l).bnd B = true) {B' : Int} (hB : B ≤ B') {res : List Tm} (hr : ∀ u ∈ res, u.valid = true ∧ u.bnd B' = true)
    (ho : (k = 6 ∧ out = l.take 1 ++ res ∧ res.length = (l.drop 1).length) ∨ (k ≠ 6 ∧ out = res ∧ res.length = l.length)) : (Tm.mk k s n out).valid = true ∧ (Tm.mk k s n out).bnd B' = true := by
  obtain ⟨h1, h2⟩ := (valid_iff ..).1 hv
  obtain ⟨h3, h4⟩ := (bnd_iff ..).1 hb
  rcases ho with ⟨rfl, rfl, hl⟩ | ⟨h6, rfl, hl⟩
  · obtain ⟨e1, e2, e3, e4⟩ := ok1_app.1 h1
    cases l with
    | nil => simp at e3
    | cons x xs =>
      simp only [List.take_succ_cons, List.take_zero, List.drop_succ_cons, List.drop_zero, List.cons_append, List.nil_append, List.length_cons, List.getD_cons_zero] at hl e3 e4 ⊢
      refine ⟨(valid_iff ..).2 ⟨ok1_app.2 ⟨e1, e2, by simp; omega, by simpa using e4⟩, fun u hu => ?_⟩, (bnd_iff ..).2 ⟨by simp, fun u hu => ?_⟩⟩
      · rcases List.mem_cons.1 hu with rfl | hu
        · exact h2 _ (by simp)
        · exact (hr u hu).1
      · rcases List.mem_cons.1 hu with rfl | hu
        · exact bnd_mono hB _ (h4 _ (by simp))
        · exact (hr u hu).2
  · by_cases h5 : k = 5
    · subst h5
      obtain ⟨e1, e2, e3⟩ := ok1_lam.1 h1
      exact ⟨(valid_iff ..).2 ⟨ok1_lam.2 ⟨e1, e2, by omega⟩, fun u hu => (hr u hu).1⟩, (bnd_iff ..).2 ⟨by simp, fun u hu => (hr u hu).2⟩⟩
    · have hl0 := ok1_leaf h1 h5 h6
      subst hl0
      have : out = [] := List.eq_nil_of_length_eq_zero hl
      subst this
      exact ⟨hv, bnd_mono hB _ hb⟩
open Tm in
theorem kids_fit {M : Nat} {B B' : Int} {k : Int} {s : ByteArray} {n : Int} {l : List Tm} {f : Int} {g : Tm → Int → Tm × Int × Int} {N : Nat} (hg : GoodF M B N g) (hf : f.toNat ≤ N) (h0 : 0 ≤ f) (hv : (Tm.mk k s n l).valid = true) (hb : (Tm.mk k s n l).bnd B = true) (hs : (Tm.mk k s n l).size + f.toNat * M ≤ SB) (hB : B + f.toNat * SB = B') (he : (kidsF g (.mk k s n l) f).2.1 = 0) :
    (Tm.mk k s n (kidsF g (.mk k s n l) f).1).valid = true ∧ (kidsF g (.mk k s n l) f).2.2 ≤ f ∧ 0 ≤ (kidsF g (.mk k s n l) f).2.2 ∧ (Tm.mk k s n (kidsF g (.mk k s n l) f).1).size + (kidsF g (.mk k s n l) f).2.2.toNat * M ≤ (Tm.mk k s n l).size + f.toNat * M ∧ (Tm.mk k s n (kidsF g (.mk k s n l) f).1).bnd B' = true := by
  obtain ⟨-, h2⟩ := (valid_iff ..).1 hv
  obtain ⟨-, h4⟩ := (bnd_iff ..).1 hb
  rw [size_mk] at hs
  have hBB : B ≤ B' := by
    have : (0 : Int) ≤ f.toNat * SB := Int.mul_nonneg (by omega) (by omega)
    omega
  rw [kidsF_mk] at he ⊢
  by_cases h6 : k = 6
  · rw [if_pos h6] at he ⊢
    have hsz : sizeL l = sizeL (l.take 1) + sizeL (l.drop 1) := by rw [← sizeL_append, List.take_append_drop]
    obtain ⟨res, b1, b2, b3, b4, b5, b6⟩ := mapF_fit hg (l.drop 1) (l.take 1) f hf h0 (fun u hu => ⟨h2 u (List.mem_of_mem_drop hu), h4 u (List.mem_of_mem_drop hu)⟩) (by omega) he
    obtain ⟨r1, r2⟩ := rebuild_fit hv hb hBB (res := res) (by rw [← hB]; exact b3) (.inl ⟨h6, b1, b2⟩)
    refine ⟨r1, b4, b5, ?_, r2⟩
    rw [size_mk, size_mk]
    rw [b1, sizeL_append]
    omega
  · rw [if_neg h6] at he ⊢
    obtain ⟨res, b1, b2, b3, b4, b5, b6⟩ := mapF_fit hg l [] f hf h0 (fun u hu => ⟨h2 u hu, h4 u hu⟩) (by omega) he
    rw [List.nil_append] at b1
    obtain ⟨r1, r2⟩ := rebuild_fit hv hb hBB (res := res) (by rw [← hB]; exact b3) (.inr ⟨h6, b1, b2⟩)
    refine ⟨r1, b4, b5, ?_, r2⟩
    rw [size_mk, size_mk]
    rw [b1]
    omega
open Tm in
theorem full_fit (S : St) (M : Nat) : ∀ (m : Nat) (B : Int) (n : Nat), n ≤ m → S.Ok M B → B + n * SB ≤ far → GoodF M B n (fullF S m) := by
  intro m
  induction m with
  | zero =>
    intro B n hn hS hB t f hf hv hb hs h0
    rw [fullF] at h0
    simp at h0
  | succ m ih =>
    intro B n hn hS hB t f hf hv hb hs h0
    rw [fullF] at h0 ⊢
    split at h0
    · simp at h0
    · rename_i h1
      rw [if_neg h1]
      split at h0
      · rename_i h2; exact absurd h0 h2
      · rename_i h2
        rw [if_neg h2]
        simp only [ne_eq, Decidable.not_not] at h2
        split at h0
        · rename_i h3; exact absurd h0 h3
        · rename_i h3
          rw [if_neg h3]
          simp only [ne_eq, Decidable.not_not] at h3
          have hfn : f.toNat = (f - 1).toNat + 1 := by omega
          have hmn : (f.toNat : Int) * SB ≤ n * SB := Int.mul_le_mul_of_nonneg_right (by omega) (by omega)
          have hM1 : f.toNat * M = (f - 1).toNat * M + M := by rw [hfn, Nat.succ_mul]
          have hS1 : (f.toNat : Int) * SB = ((f - 1).toNat : Int) * SB + SB := by rw [hfn]; push_cast; rw [Int.add_mul]; omega
          have hS0 : (0 : Int) ≤ (SB : Int) := by omega
          have hd := head_ok hS hv hb (f := f - 1) (by omega) (by omega) h2
          have hdn := hd.nn (by omega)
          have hdl := hd.le
          have hds := hd.sz
          have hdb := hd.b
          have hdv := hd.v
          have hsub := toNat_sub_mul (f - 1).toNat (S.head t (f - 1)).2.2.toNat (by omega) SB
          have hB1 : (0 : Int) ≤ ((f - 1).toNat - (S.head t (f - 1)).2.2.toNat : Nat) * SB := Int.mul_nonneg (by omega) hS0
          generalize hhd : S.head t (f - 1) = hd' at *
          obtain ⟨⟨k, s, n', l⟩, e, f'⟩ := hd'
          simp only [k_mk, s_mk, n_mk] at *
          have hg := ih (B + ((f - 1).toNat - f'.toNat : Nat) * SB) f'.toNat (by omega) (hS.mono (by omega)) (by omega)
          obtain ⟨r1, r2, r3, r4, r5⟩ := kids_fit (B' := B + (f - 1).toNat * SB) hg (Nat.le_refl _) hdn hdv hdb (by omega) (by omega) h3
          exact ⟨r1, by omega, r3, by omega, bnd_mono (by omega) _ r5⟩
end St
end Go.Proofs.Ytbdappbmlnpogaa
namespace Go.Proofs.Ytbdappbmlnpogaa
open Go Go.RowKit
set_option maxRecDepth 100000
/-- Cells written one behind the other. -/
def setRow (w : World) (g : Nat) : Nat → List Value → World
  | _, [] => w
  | o, v :: vs => setRow (w.setCell ⟨g, o, none⟩ v) g (o + 1) vs
def setArr (c : Array Value) : Nat → List Value → Array Value
  | _, [] => c
  | o, v :: vs => setArr (c.setIfInBounds o v) (o + 1) vs
theorem setArr_size (vs : List Value) : ∀ (c : Array Value) (o : Nat), (setArr c o vs).size = c.size := by
  induction vs with
  | nil => intro c o; rfl
  | cons v vs ih => intro c o; rw [setArr, ih]; simp
theorem setArr_get (vs : List Value) : ∀ (c : Array Value) (o j : Nat), o + vs.length ≤ c.size → (setArr c o vs)[j]? = if o ≤ j ∧ j < o + vs.length then vs[j - o]? else c[j]? := by
  induction vs with
  | nil => intro c o j h; rw [setArr, if_neg (by simp only [List.length_nil]; omega)]
  | cons v vs ih =>
    intro c o j h
    simp only [List.length_cons] at h
    rw [setArr, ih _ _ _ (by simp; omega)]
    by_cases h1 : j = o
    · subst h1
      rw [if_neg (by omega), if_pos ⟨Nat.le_refl _, by simp⟩, Array.getElem?_setIfInBounds_self_of_lt (by omega)]
      simp
    · rw [Array.getElem?_setIfInBounds_ne (by omega)]
      by_cases h2 : o + 1 ≤ j ∧ j < o + 1 + vs.length
      · rw [if_pos h2, if_pos ⟨by omega, by simp; omega⟩]
        rw [show j - o = (j - (o + 1)) + 1 by omega, List.getElem?_cons_succ]
      · rw [if_neg h2, if_neg (by simp only [List.length_cons]; omega)]
theorem setRow_heap {e : TypeId} {fz : Nat × Nat} {g : Nat} (vs : List Value) : ∀ (w : World) (c : Array Value) (o : Nat), w.heap[g]? = some (.cells c e fz) → (setRow w g o vs).heap[g]? = some (.cells (setArr c o vs) e fz) := by
  induction vs with
  | nil => intro w c o h; exact h
  | cons v vs ih =>
    intro w c o h
    rw [setRow, setArr]
    apply ih
    simp [World.setCell, Array.getElem?_modify, h]
theorem setRow_far {g k : Nat} (h : k ≠ g) (vs : List Value) : ∀ (w : World) (o : Nat), (setRow w g o vs).heap[k]? = w.heap[k]? := by
  induction vs with
  | nil => intro w o; rfl
  | cons v vs ih => intro w o; rw [setRow, ih]; exact Below.heap_setCell w ⟨g, o, none⟩ _ k h
theorem setRow_size {g : Nat} (vs : List Value) : ∀ (w : World) (o : Nat), (setRow w g o vs).heap.size = w.heap.size := by
  induction vs with
  | nil => intro w o; rfl
  | cons v vs ih => intro w o; rw [setRow, ih]; simp [World.setCell]
theorem Ext.setRow {O : Nat → Prop} {H H1 : GH} {w : World} {g : Nat} (hn : H1 g = none) (ho : g < w.heap.size → O g) (vs : List Value) : ∀ (w1 : World) (o : Nat), Ext O H w H1 w1 → Ext O H w H1 (setRow w1 g o vs) := by
  induction vs with
  | nil => intro w1 o h; exact h
  | cons v vs ih => intro w1 o h; exact ih _ _ (h.setCell (p := ⟨g, o, none⟩) hn ho v)
section
variable {α : Type} {H : GH} {w : World} {base : Nat} {e : TypeId} {sz : Nat} {P : α → List Value → Prop} {v : Value} {xs : List α}
/-- An element's cells. -/
theorem Own.get (h : Own H w base e sz P v xs) (hP : ∀ x cs, P x cs → cs.length = sz) {i : Nat} {x : α} (hi : xs[i]? = some x) :
    ∃ g cap cs, v = .slice (some ⟨g, 0, none⟩) xs.length cap ∧ base ≤ g ∧ P x cs ∧ (∀ j u, cs[j]? = some u → w.cell? ⟨g, i * sz + j, none⟩ = some u) ∧ (∀ o, w.frozen? ⟨g, o, none⟩ = false) ∧ xs.length ≤ cap ∧ cap ≤ maxLen ∧ g < w.heap.size := by
  obtain ⟨C, hr, hf, hx⟩ := h
  have hlt := (List.getElem?_eq_some_iff.1 hi).1
  rcases hr.2 with ⟨hv, h0⟩ | ⟨g, cap, cur, rfl, hb, hh, h1, h2, h3, h4⟩
  · omega
  · refine ⟨g, cap, _, rfl, hb, hx i x hi, fun j u hu => ?_, fun o => (blk_cells hh o).2, h1, h2, cell_lt hh⟩
    rw [(blk_cells hh _).1]
    have hj : j < sz := by
      have := (List.getElem?_eq_some_iff.1 hu).1
      rw [hP _ _ (hx i x hi)] at this
      exact this
    rw [List.getElem?_take, if_pos hj, List.getElem?_drop, ← h4, List.getElem?_take] at hu
    split at hu
    · simpa using hu
    · cases hu
/-- An element is written. -/
theorem Own.set (h : Own H w base e sz P v xs) {g n cap : Nat} (hv : v = .slice (some ⟨g, 0, none⟩) n cap) {i : Nat} (hi : i < xs.length) {y : α} {vs : List Value} (hl : vs.length = sz) (hy : P y vs) :
    Own H (setRow w g (i * sz) vs) base e sz P v (xs.set i y) := by
  obtain ⟨C, hr, hf, hx⟩ := h
  rcases hr.2 with ⟨hv', h0⟩ | ⟨g', cap', cur, hv', hb, hh, h1, h2, h3, h4⟩
  · rw [hv] at hv'; injection hv' with hv'; cases hv'
  · rw [hv] at hv'
    injection hv' with e1 e2 e3
    injection e1 with e1
    injection e1 with e1
    subst e1; subst e2; subst e3; subst hv
    have hcl := hr.1
    have hbound : i * sz + vs.length ≤ cur.size := by
      rw [hl, h3]
      have : i * sz + sz = (i + 1) * sz := by rw [Nat.succ_mul]
      rw [this]
      exact Nat.mul_le_mul_right _ (by omega)
    have hlen : ((setArr cur (i * sz) vs).toList.take (xs.length * sz)).length = xs.length * sz := by
      have hs : (setArr cur (i * sz) vs).toList.length = cap * sz := by
        rw [show (setArr cur (i * sz) vs).toList.length = (setArr cur (i * sz) vs).size from rfl, setArr_size, h3]
      rw [List.length_take, hs]
      exact Nat.min_eq_left (Nat.mul_le_mul_right _ h1)
    refine ⟨(setArr cur (i * sz) vs).toList.take (xs.length * sz), ⟨by rw [List.length_set]; exact hlen, .inr ⟨g, cap, setArr cur (i * sz) vs, by rw [List.length_set], hb, setRow_heap vs w cur _ hh, by rw [List.length_set]; exact h1, h2, by rw [setArr_size]; exact h3, by rw [List.length_set]⟩⟩, hf, fun k x hk => ?_⟩
    have hklt : k < xs.length := by
      have := (List.getElem?_eq_some_iff.1 hk).1
      rwa [List.length_set] at this
    have hkb : k * sz + sz ≤ xs.length * sz := by
      have : k * sz + sz = (k + 1) * sz := by rw [Nat.succ_mul]
      rw [this]
      exact Nat.mul_le_mul_right _ hklt
    have hget : ∀ j, j < sz → (((setArr cur (i * sz) vs).toList.take (xs.length * sz)).drop (k * sz))[j]? = if k = i then vs[j]? else (C.drop (k * sz))[j]? := by
      intro j hj
      rw [List.getElem?_drop, List.getElem?_take, if_pos (by omega), Array.getElem?_toList, setArr_get _ _ _ _ hbound, hl]
      by_cases hki : k = i
      · subst hki
        rw [if_pos (by omega), if_pos rfl, show k * sz + j - k * sz = j by omega]
      · have hne : ¬ (i * sz ≤ k * sz + j ∧ k * sz + j < i * sz + sz) := by
          rintro ⟨a, b⟩
          rcases Nat.lt_or_ge k i with h | h
          · have : k * sz + sz = (k + 1) * sz := by rw [Nat.succ_mul]
            have := Nat.mul_le_mul_right sz (show k + 1 ≤ i from h)
            omega
          · have : i * sz + sz = (i + 1) * sz := by rw [Nat.succ_mul]
            have := Nat.mul_le_mul_right sz (show i + 1 ≤ k by omega)
            omega
        rw [if_neg hne, if_neg hki, List.getElem?_drop, ← h4, List.getElem?_take, if_pos (by omega), Array.getElem?_toList]
    by_cases hki : k = i
    · subst hki
      rw [List.getElem?_set_self hklt] at hk
      injection hk with hk
      subst hk
      have : (((setArr cur (k * sz) vs).toList.take (xs.length * sz)).drop (k * sz)).take sz = vs := by
        apply List.ext_getElem?
        intro j
        rw [List.getElem?_take]
        split
        · rename_i hj; rw [hget j hj, if_pos rfl]
        · rw [List.getElem?_eq_none (by omega)]
      rw [this]
      exact hy
    · rw [List.getElem?_set_ne (by omega)] at hk
      have : (((setArr cur (i * sz) vs).toList.take (xs.length * sz)).drop (k * sz)).take sz = (C.drop (k * sz)).take sz := by
        apply List.ext_getElem?
        intro j
        rw [List.getElem?_take, List.getElem?_take]
        split
        · rename_i hj; rw [hget j hj, if_neg hki]
        · rfl
      rw [this]
      exact hx k x hk
end
end Go.Proofs.Ytbdappbmlnpogaa
namespace Go.Proofs.Ytbdappbmlnpogaa
open Go Go.RowKit
set_option maxRecDepth 100000
def RepI (H : GH) (i : Inf) (cs : List Value) : Prop := ∃ tcs, cs = .int .i64 i.lv :: .bool i.bd :: tcs ∧ Rep H i.vl tcs ∧ I64 i.lv
theorem RepI.len {H : GH} {i : Inf} {cs : List Value} (h : RepI H i cs) : cs.length = 6 := by
  obtain ⟨tcs, rfl, h, -⟩ := h
  have := h.len
  simp only [List.length_cons]; omega
theorem RepI.one {H : GH} {i : Inf} {cs : List Value} (h : RepI H i cs) : ∀ u ∈ cs, u.oneCell' = true := by
  obtain ⟨tcs, rfl, h, -⟩ := h
  intro u hu
  rcases List.mem_cons.1 hu with rfl | hu
  · rfl
  · rcases List.mem_cons.1 hu with rfl | hu
    · rfl
    · exact h.one u hu
theorem RepI.mono {H H' : GH} (hs : Sub H H') {i : Inf} {cs : List Value} (h : RepI H i cs) : RepI H' i cs := by
  obtain ⟨tcs, e, h, h'⟩ := h
  exact ⟨tcs, e, h.mono hs, h'⟩
/-- A store lies at s, its cells in blocks that are among F. -/
def StAt (H : GH) (w : World) (F : Nat → Prop) (s : Nat) (S : St) : Prop :=
  ∃ vi vt, w.heap[s]? = some (.cells #[vi, vt] 67 (0, 0)) ∧ H s = none ∧ F s ∧ Own H w 0 37 6 (RepI H) vi S.V ∧ Own H w 0 3 1 IntP vt S.T ∧
    (∀ g, vi.ownBlock = some g → F g ∧ g ≠ s) ∧ (∀ g, vt.ownBlock = some g → F g ∧ g ≠ s ∧ vi.ownBlock ≠ some g)
theorem StAt.ext {H H' : GH} {w w' : World} {F O : Nat → Prop} {s : Nat} {S : St} (h : StAt H w F s S) (hx : Ext O H w H' w') (ho : ∀ k, O k → ¬ F k) : StAt H' w' F s S := by
  obtain ⟨vi, vt, h1, h2, h3, h4, h5, h6, h7⟩ := h
  exact ⟨vi, vt, (hx.block s (cell_lt h1) (fun h => ho s h h3)).trans h1, (hx.old s (cell_lt h1)).trans h2, h3, h4.ext hx (fun g hg hO => ho g hO (h6 g hg).1) (fun _ _ h => h.mono hx.sub), h5.ext hx (fun g hg hO => ho g hO (h7 g hg).1) (fun _ _ h => h), h6, h7⟩
theorem StAt.pure {H H' : GH} {w w' : World} {F : Nat → Prop} {s : Nat} {S : St} (h : StAt H w F s S) (hx : Pure H w H' w') : StAt H' w' F s S := h.ext hx (fun _ hO => hO.elim)
theorem StAt.mono {H : GH} {w : World} {F F' : Nat → Prop} {s : Nat} {S : St} (h : StAt H w F s S) (hf : ∀ k, F k → F' k) : StAt H w F' s S := by
  obtain ⟨vi, vt, h1, h2, h3, h4, h5, h6, h7⟩ := h
  exact ⟨vi, vt, h1, h2, hf _ h3, h4, h5, fun g hg => ⟨hf _ (h6 g hg).1, (h6 g hg).2⟩, fun g hg => ⟨hf _ (h7 g hg).1, (h7 g hg).2⟩⟩
theorem StAt.lt {H : GH} {w : World} {F : Nat → Prop} {s : Nat} {S : St} (h : StAt H w F s S) : s < w.heap.size := by
  obtain ⟨vi, vt, h1, -⟩ := h
  exact cell_lt h1
theorem StAt.below {H : GH} {w w' : World} {F : Nat → Prop} {s : Nat} {S : St} (h : StAt H w F s S) (hA : Agree H w) (hb : Below w.heap.size w w') : StAt H w' F s S := h.pure (Ext.of_below hA hb)
theorem isSl_infs : IsSl Try.prog 62 37 6 72 :=
  isSl_of (z := .agg #[.int .i64 0, .bool false, .int .i64 0, .string ByteArray.empty, .int .i64 0, .slice none 0 0]) Try.underlying62 (by kernel_rfl) rfl (by decide)
theorem store_New (H : GH) (w : World) (hA : Agree H w) :
    Calls Try.prog 16 #[] w fun e w' => e = .returned (.pointer (some ⟨w.heap.size, 0, none⟩)) ∧ Pure H w H w' ∧ StAt H w' (fun k => k = w.heap.size) w.heap.size ⟨[], []⟩ := by
  have hn := hA.free (Nat.le_refl _)
  go_enter Try.func16, Try.ntmps16
  go_wp2_with fail
  go_ret
  exact ⟨rfl, (Ext.refl hA).alloc _, _, _, heap_alloc_new _ _, hn, rfl, Own.nil _ _ _ _ _ _, Own.nil _ _ _ _ _ _, fun g hg => by simp [Value.ownBlock] at hg, fun g hg => by simp [Value.ownBlock] at hg⟩
theorem blk2 {w : World} {s : Nat} {v0 v1 : Value} {T : TypeId} (h : w.heap[s]? = some (.cells #[v0, v1] T (0, 0))) :
    s < w.heap.size ∧ w.cell? ⟨s, 0, none⟩ = some v0 ∧ w.cell? ⟨s, 1, none⟩ = some v1 ∧ w.frozen? ⟨s, 0, none⟩ = false ∧ w.frozen? ⟨s, 1, none⟩ = false :=
  ⟨cell_lt h, (blk_cells h 0).1, (blk_cells h 1).1, (blk_cells h 0).2, (blk_cells h 1).2⟩
theorem store_Len {F : Nat → Prop} (H : GH) (w : World) (s : Nat) (S : St) (hS : StAt H w F s S) :
    Calls Try.prog 11 #[.pointer (some ⟨s, 0, none⟩)] w fun e w' => e = .returned (.int .i64 S.V.length) ∧ w' = w := by
  obtain ⟨vi, vt, h1, -, -, h4, -⟩ := hS
  obtain ⟨hlt, c0, c1, -⟩ := blk2 h1
  obtain ⟨va, vc, rfl, -, -⟩ := h4.form
  go_enter Try.func11, Try.ntmps11
  go_wp2_with fail
  go_ret
  exact ⟨rfl, rfl⟩
/-- What Info gives. -/
def InfoPost (H : GH) (w : World) (i : Inf) (ok : Bool) (e : Ending) (w' : World) : Prop :=
  ∃ cs, e = .returned (.tuple #[.agg cs.toArray, .bool ok]) ∧ Below w.heap.size w w' ∧ RepI H i cs
abbrev ibox0 : Obj := .cells #[.int .i64 0, .bool false, .int .i64 0, .string ⟨#[]⟩, .int .i64 0, .slice none 0 0] 37 (0, 0)
set_option maxHeartbeats 2000000 in
theorem store_Info {F : Nat → Prop} (H : GH) (w : World) (s : Nat) (S : St) (x : Int) (hS : StAt H w F s S) :
    Calls Try.prog 10 #[.pointer (some ⟨s, 0, none⟩), .int .i64 x] w (InfoPost H w (S.info x).1 (S.info x).2) := by
  obtain ⟨vi, vt, h1, -, -, h4, -⟩ := hS
  obtain ⟨hlt, c0, c1, -⟩ := blk2 h1
  obtain ⟨va, vc, rfl, -, -⟩ := h4.form
  by_cases hx : x < 0
  · have ho := Lib.hid (show S.info x = (Inf.zero, false) by unfold St.info; rw [if_pos (.inl hx)])
    go_enter Try.func10, Try.ntmps10
    go_wp2_with fail
    refine bodyPost_ret (v := .tuple #[.agg #[.int .i64 0, .bool false, .int .i64 0, .string ⟨#[]⟩, .int .i64 0, .slice none 0 0], .bool false]) (by simp [results, Try.results10, go_sem]) rfl ?_
    rw [ho.out]
    exact ⟨_, rfl, below_alloc _ _, _, rfl, rep_zero H, by unfold I64 Inf.zero; simp⟩
  · by_cases hxl : (S.V.length : Int) ≤ x
    · have ho := Lib.hid (show S.info x = (Inf.zero, false) by unfold St.info; rw [if_pos (.inr hxl)])
      go_enter Try.func10, Try.ntmps10
      go_wp2_with fail
      refine bodyPost_ret (v := .tuple #[.agg #[.int .i64 0, .bool false, .int .i64 0, .string ⟨#[]⟩, .int .i64 0, .slice none 0 0], .bool false]) (by simp [results, Try.results10, go_sem]) rfl ?_
      rw [ho.out]
      exact ⟨_, rfl, below_alloc _ _, _, rfl, rep_zero H, by unfold I64 Inf.zero; simp⟩
    · obtain ⟨j, rfl⟩ : ∃ j : Nat, x = j := ⟨x.toNat, by omega⟩
      have hj : j < S.V.length := by omega
      obtain ⟨i, hi⟩ : ∃ i, S.V[j]? = some i := ⟨_, List.getElem?_eq_getElem hj⟩
      have ho := Lib.hid (show S.info j = (i, true) by unfold St.info; rw [if_neg (by omega)]; simp [List.getD_eq_getElem?_getD, hi])
      obtain ⟨g, cap, cs, hv, -, hP, hcell, -, -, -, hg⟩ := h4.get (fun _ _ h => h.len) hi
      injection hv with hv
      subst hv
      have HP := Lib.hid hP
      obtain ⟨tcs, rfl, hR, hlv⟩ := hP
      obtain ⟨ta, tc, rfl, -, -, -, -⟩ := hR.open_
      have d0 := hcell 0 _ rfl
      have d1 := hcell 1 _ rfl
      have d2 := hcell 2 _ rfl
      have d3 := hcell 3 _ rfl
      have d4 := hcell 4 _ rfl
      have d5 := hcell 5 _ rfl
      simp only [Nat.add_zero] at d0
      clear hcell hi h4 hxl hx
      go_enter Try.func10, Try.ntmps10
      go_wp2_with fail
      refine bodyPost_ret (v := .tuple #[.agg #[.int .i64 i.lv, .bool i.bd, .int .i64 i.vl.k, .string i.vl.s, .int .i64 i.vl.n, .slice ta i.vl.l.length tc], .bool true]) (by simp [results, Try.results10, go_sem]) rfl ?_
      rw [ho.out]
      exact ⟨_, rfl, below_alloc _ _, HP.out⟩
end Go.Proofs.Ytbdappbmlnpogaa
namespace Go.Proofs.Ytbdappbmlnpogaa
open Go Go.RowKit
set_option maxRecDepth 100000
theorem blk2_set0 {w : World} {s : Nat} {v0 v1 u : Value} {T : TypeId} (h : w.heap[s]? = some (.cells #[v0, v1] T (0, 0))) : (w.setCell ⟨s, 0, none⟩ u).heap[s]? = some (.cells #[u, v1] T (0, 0)) := by
  simp [World.setCell, Array.getElem?_modify, h]
theorem blk2_set1 {w : World} {s : Nat} {v0 v1 u : Value} {T : TypeId} (h : w.heap[s]? = some (.cells #[v0, v1] T (0, 0))) : (w.setCell ⟨s, 1, none⟩ u).heap[s]? = some (.cells #[v0, u] T (0, 0)) := by
  simp [World.setCell, Array.getElem?_modify, h]
theorem grown_set (w : World) (s o : Nat) (u : Value) : w.grownBy (w.setCell ⟨s, o, none⟩ u) (some s) :=
  ⟨rfl, rfl, rfl, by simp [World.setCell], fun k _ hne => Below.heap_setCell w ⟨s, o, none⟩ _ k (fun e => hne (congrArg some e))⟩
def FreshPost (F : Nat → Prop) (H : GH) (w : World) (s : Nat) (S : St) (level : Int) (e : Ending) (w' : World) : Prop :=
  e = .returned (.int .i64 S.V.length) ∧ Ext F H w H w' ∧ StAt H w' (fun k => F k ∨ w.heap.size ≤ k) s (S.fresh level)
set_option maxHeartbeats 4000000 in
theorem store_Fresh {F : Nat → Prop} (H : GH) (w : World) (s : Nat) (S : St) (level : Int) (hA : Agree H w) (hS : StAt H w F s S) (hl : I64 level) (hn : S.V.length ≤ 1073741824) :
    Calls Try.prog 17 #[.pointer (some ⟨s, 0, none⟩), .int .i64 level] w (FreshPost F H w s S level) := by
  obtain ⟨vi, vt, h1, h2, h3, h4, h5, h6, h7⟩ := hS
  obtain ⟨hlt, c0, c1, f0, f1⟩ := blk2 h1
  have hbx := below_alloc w (.cells #[.int .i64 (St.top0 level), .bool false, .int .i64 0, .string ⟨#[]⟩, .int .i64 0, .slice none 0 0] 37 (0, 0))
  have hown := h4.below hbx
  have htr := h5.below hbx
  have hfree := h4.free
  have hvi : ∀ g, vi.ownBlock = some g → g < w.heap.size := fun g hg => (h4.lt g hg).2
  have hvt : ∀ g, vt.ownBlock = some g → g < w.heap.size := fun g hg => (h5.lt g hg).2
  obtain ⟨va, vc, rfl, hvc, hvm⟩ := h4.form
  obtain ⟨ta, tc, rfl, -, -⟩ := h5.form
  have hrep : RepI H ⟨St.top0 level, false, Tm.zero⟩ [.int .i64 (St.top0 level), .bool false, .int .i64 0, .string ⟨#[]⟩, .int .i64 0, .slice none 0 0] := ⟨_, rfl, rep_zero H, by show I64 (St.top0 level); unfold I64 St.top0 at *; split <;> omega⟩
  have HREP := Lib.hid hrep
  have H1 := Lib.hid h1
  have hnn : (S.V.length : Int) ≤ 1073741824 := by omega
  have fin : ∀ v' w', Own H w' 0 37 6 (RepI H) v' (S.V ++ [⟨St.top0 level, false, Tm.zero⟩]) → (w.alloc (.cells #[.int .i64 (St.top0 level), .bool false, .int .i64 0, .string ⟨#[]⟩, .int .i64 0, .slice none 0 0] 37 (0, 0))).grownBy w' (Value.slice va S.V.length vc).ownBlock →
      (v'.ownBlock = (Value.slice va S.V.length vc).ownBlock ∨ v'.ownBlock = some (w.heap.size + 1)) → FreshPost F H w s S level (.returned (.int .i64 S.V.length)) (w'.setCell ⟨s, 0, none⟩ v') := by
    intro v' w' own' hg' hb'
    have hb1 : w'.heap[s]? = some (.cells #[.slice va S.V.length vc, .slice ta S.T.length tc] 67 (0, 0)) :=
      (hg'.block s (by simp; omega) (fun e => (h6 s e.symm).2 rfl)).trans (Below.blk hbx h1)
    have E1 : Ext F H w H w' := ((Ext.refl hA).alloc _).grown hg' hfree (fun g hg _ => (h6 g hg).1)
    have hne : ∀ g, v'.ownBlock = some g → (F g ∨ w.heap.size ≤ g) ∧ g ≠ s := fun g hg => by
      rcases hb' with e | e
      · rw [e] at hg; exact ⟨.inl (h6 g hg).1, (h6 g hg).2⟩
      · rw [e] at hg; injection hg with hg; subst hg; exact ⟨.inr (by omega), by omega⟩
    refine ⟨rfl, E1.setCell (p := ⟨s, 0, none⟩) h2 (fun _ => h3) v', v', _, blk2_set0 hb1, h2, .inl h3, ?_, ?_, hne, fun g hg => ⟨.inl (h7 g hg).1, (h7 g hg).2.1, fun e => ?_⟩⟩
    · exact own'.grown (grown_set w' s 0 v') (fun g hg e => by injection e with e; exact (hne g hg).2 e.symm)
    · refine (htr.grown hg' (fun g hg e => (h7 g hg).2.2 e)).grown (grown_set w' s 0 v') (fun g hg e => by injection e with e; exact (h7 g hg).2.1 e.symm)
    · rcases hb' with e' | e'
      · exact (h7 g hg).2.2 (e'.symm.trans e)
      · rw [e'] at e
        injection e with e
        have := hvt g hg
        omega
  have FIN := Lib.hid fin
  clear fin
  have hbh : (w.alloc (.cells #[.int .i64 (St.top0 level), .bool false, .int .i64 0, .string ⟨#[]⟩, .int .i64 0, .slice none 0 0] 37 (0, 0))).heap[w.heap.size]? = some (.cells #[.int .i64 (St.top0 level), .bool false, .int .i64 0, .string ⟨#[]⟩, .int .i64 0, .slice none 0 0] 37 (0, 0)) := heap_alloc_new _ _
  have HBH := Lib.hid hbh
  have H6 := Lib.hid h6
  clear hbh h6 h7 hvi hvt htr h3
  have hcases : (level < 0 ∧ St.top0 level = 0) ∨ (¬ level < 0 ∧ St.top0 level = level) := by unfold St.top0; split <;> simp_all
  rcases hcases with ⟨hl0, ht⟩ | ⟨hl0, ht⟩
  · rw [ht] at hown FIN HREP HBH hbx
    go_enter Try.func17, Try.ntmps17
    go_wp2_with (at_builtin; go_loud (refine wpList_own1 rfl _ _ rfl isSl_infs (.slice va S.V.length vc) rfl w.heap.size 1 rfl hown (hA.alloc _) (by simp) _ HBH.out _ HREP.out rfl HREP.out.one (by unfold maxLen; omega) (by omega) ?_; intro v1 w1 own1 hg1 hb1; have hbk : w1.heap[s]? = _ := (hg1.block s (by simp; omega) (fun e => (H6.out s e.symm).2 rfl)).trans (Below.blk hbx H1.out); obtain ⟨z0, z1, z2, z3, z4⟩ := blk2 hbk; obtain ⟨xa, xc, rfl, hxl, -⟩ := own1.form))
    go_ret
    have own2 := own1
    have hb2 := hb1
    rw [List.length_append] at own2 hb2
    exact FIN.out _ _ own2 hg1 (by simpa using hb2)
  · rw [ht] at hown FIN HREP HBH hbx
    go_enter Try.func17, Try.ntmps17
    go_wp2_with (at_builtin; go_loud (refine wpList_own1 rfl _ _ rfl isSl_infs (.slice va S.V.length vc) rfl w.heap.size 1 rfl hown (hA.alloc _) (by simp) _ HBH.out _ HREP.out rfl HREP.out.one (by unfold maxLen; omega) (by omega) ?_; intro v1 w1 own1 hg1 hb1; have hbk : w1.heap[s]? = _ := (hg1.block s (by simp; omega) (fun e => (H6.out s e.symm).2 rfl)).trans (Below.blk hbx H1.out); obtain ⟨z0, z1, z2, z3, z4⟩ := blk2 hbk; obtain ⟨xa, xc, rfl, hxl, -⟩ := own1.form))
    go_ret
    have own2 := own1
    have hb2 := hb1
    rw [List.length_append] at own2 hb2
    exact FIN.out _ _ own2 hg1 (by simpa using hb2)
end Go.Proofs.Ytbdappbmlnpogaa
