/- eta.drop. -/
import Derived.Test.YtbdappbmlnpogaaContract
import Derived.Deep.CutRange
namespace Go.Proofs.Ytbdappbmlnpogaa
open Go Go.RowKit
set_option maxRecDepth 100000
namespace Tm
theorem sizeL_take_le (l : List Tm) (k : Nat) : sizeL (l.take k) ≤ sizeL l := by
  have : sizeL l = sizeL (l.take k) + sizeL (l.drop k) := by rw [← sizeL_append, List.take_append_drop]
  omega
theorem sizeL_drop_le (l : List Tm) (k : Nat) : sizeL (l.drop k) ≤ sizeL l := by
  have : sizeL l = sizeL (l.take k) + sizeL (l.drop k) := by rw [← sizeL_append, List.take_append_drop]
  omega
theorem rest_fit {t : Tm} {S : Nat} {B : Int} (h : Fit S B t) (h6 : t.k = 6) : Fit S B t.rest ∧ t.rest.size < t.size := by
  cases t with
  | mk k s n l =>
    simp only [k_mk] at h6
    subst h6
    have hm := fun u hu => h.mem (u := u) hu
    obtain ⟨-, -, h2, -⟩ := ok1_app.1 ((valid_iff ..).1 h.v).1
    have h0 := hm _ (getD0_mem (by omega : 0 < l.length))
    have hr : ∀ u ∈ (l.take (l.length - 1)).drop 1, u ∈ l := fun u hu => List.mem_of_mem_take (List.mem_of_mem_drop hu)
    unfold rest
    simp only [l_mk]
    have hz : (apply (l.getD 0 zero) ((l.take (l.length - 1)).drop 1)).size < (mk 6 s n l).size := by
      have h1 := (apply_size (l.getD 0 zero) ((l.take (l.length - 1)).drop 1)).1
      rw [size_mk]
      cases l with
      | nil => simp at h2
      | cons x xs =>
        simp only [List.getD_cons_zero, List.length_cons, Nat.add_sub_cancel, sizeL_cons] at h1 ⊢
        obtain ⟨ini, y, rfl⟩ : ∃ ini y, xs = ini ++ [y] := ⟨xs.dropLast, xs.getLast (by intro e; subst e; simp at h2), (List.dropLast_concat_getLast _).symm⟩
        simp only [List.length_append, List.length_cons, List.length_nil, Nat.zero_add, List.take_succ_cons, List.drop_succ_cons, List.drop_zero, sizeL_append, sizeL_cons, sizeL_nil, List.take_left] at h1 ⊢
        have := size_pos y
        omega
    exact ⟨⟨valid_apply h0.v fun u hu => (hm u (hr u hu)).v, by have := h.s; omega, bnd_apply h0.b fun u hu => (hm u (hr u hu)).b⟩, hz⟩
theorem shift_down_fit {t : Tm} {S : Nat} {B : Int} (h : Fit S B t) (hf : t.free 0 = false) : Fit S B (t.shift 0 (-1)) := by
  have h0 : t.occurs 0 = 0 := by
    unfold free at hf
    rw [decide_eq_false_iff_not] at hf
    unfold occursV at hf
    rw [if_pos h.v] at hf
    have := (occurs_le t 0).1
    omega
  have hno : ∀ (t : Tm) (d : Int), t.occurs d = 0 → ∀ p ∈ t.leaves d, ¬ (p.1.k = 3 ∧ p.1.n = p.2) := by
    intro t
    induction t using ind with
    | h k s n l ih =>
      intro d ho p hp
      rw [occurs_mk] at ho
      rw [leaves] at hp
      split at hp
      · rename_i hk
        rw [if_neg (by omega)] at ho
        have hd : (if k = 5 then d + 1 else d) = d + if k = 5 then 1 else 0 := by split <;> omega
        rw [hd] at ho
        revert hp ho
        generalize (d + if k = 5 then 1 else 0) = D
        intro ho hp
        clear hd hk
        induction l with
        | nil => rw [leavesL] at hp; cases hp
        | cons x xs ihx =>
          rw [occursL] at ho
          have a1 := (occurs_le x D).1
          have a2 := occursL_nonneg xs D
          rw [leavesL] at hp
          rcases List.mem_append.1 hp with hp | hp
          · exact ih x (by simp) D (by omega) p hp
          · exact ihx (fun t ht => ih t (by simp [ht])) (by omega) hp
      · have : p = (mk k s n l, d) := by simpa using hp
        subst this
        simp only [k_mk, n_mk]
        intro hc
        rw [if_pos hc] at ho
        omega
  have hn := hno t 0 h0
  refine ⟨valid_walk _ t 0 h.v fun p hp hv => ?_, Nat.le_trans (shift_size _ _ (shp_of_valid t h.v)) h.s, bnd_walk B B _ t 0 h.b fun p hp hb => ?_⟩
  · obtain ⟨-, -, -, -, h5, -⟩ := leaves_valid t 0 h.v p hp
    unfold shiftF
    split
    · rename_i hc
      have := bound_of_valid hv hc.1
      have h6 := hn p hp
      exact valid_moved hv hc.1 (by omega) (by omega)
    · exact hv
  · obtain ⟨-, h2, -⟩ := leaves_valid t 0 h.v p hp
    unfold shiftF
    split
    · refine bnd_moved (B := B) hb (fun e => ?_) h2
      generalize p.1 = q at hb e
      cases q with
      | mk k s n l =>
        have := ((bnd_iff ..).1 hb).1 e
        simp only [n_mk]
        omega
    · exact hb
theorem drop_fit {t : Tm} {S : Nat} {B : Int} (h : Fit S B t) (hd : t.drop.2 = true) : Fit S B t.drop.1 ∧ t.drop.1.size < t.size := by
  unfold drop at hd ⊢
  split at hd
  · simp at hd
  · rename_i h1
    split at hd
    · simp at hd
    · rename_i h2
      rw [if_neg h1, if_neg h2]
      obtain ⟨h3, h4⟩ := rest_fit h (by omega)
      have h5 := shift_down_fit h3 (by simpa using h2)
      have h6 := shift_size 0 (-1) (shp_of_valid _ h3.v)
      exact ⟨h5, by simp only []; omega⟩
theorem shiftL_down {t : Tm} (h : t.valid = true) (hs : t.size ≤ SB) : ∀ p ∈ t.leaves 0, ShiftL 0 (-1) p.1 p.2 := by
  intro p hp
  obtain ⟨h1, h2, h3, h4, h5, h6⟩ := leaves_valid t 0 h p hp
  unfold SB at hs
  refine ⟨fun e => absurd e h4, ?_, ?_, fun e => ?_⟩
  · rw [leaf_size h2]; unfold LB; omega
  · unfold I64; omega
  · have := bound_of_valid h1 e
    unfold I64 far at *
    omega
end Tm
/-- The first k elements. -/
theorem Tms.take {H : GH} {a : Option Addr} {n cap : Nat} {l : List Tm} (h : Tms H (.slice a n cap) l) (k : Nat) (hk : k ≤ n) : Tms H (.slice a k cap) (l.take k) := by
  obtain ⟨a', cap', C, he, h1, h2, h3, h4⟩ := h
  injection he with e1 e2 e3
  subst e1; subst e2; subst e3
  have hl : (l.take k).length = k := by rw [List.length_take]; omega
  refine ⟨a, cap, C, by rw [hl], by omega, h2, fun hn => ?_, fun i x hi => ?_⟩
  · rw [hl] at hn
    obtain ⟨b, o, rfl, g⟩ := h3 (by omega)
    exact ⟨b, o, rfl, fun i hi => g i (by omega)⟩
  · rw [List.getElem?_take] at hi
    split at hi
    · exact h4 i x hi
    · cases hi
/-- The place in the middle of a term's list. -/
def midV (b o m cap : Nat) : Value := .slice (some ⟨b, o + 4, none⟩) (m - 1) (cap - 1)
/-- A store of four cells elsewhere. -/
theorem far4 {w : World} {b g i : Nat} {u0 u1 u2 u3 v : Value} (h : b ≠ g) (hc : w.cell? ⟨b, i, none⟩ = some v) :
    ((((w.setCell ⟨g, 0, none⟩ u0).setCell ⟨g, 1, none⟩ u1).setCell ⟨g, 2, none⟩ u2).setCell ⟨g, 3, none⟩ u3).cell? ⟨b, i, none⟩ = some v := by
  have hh : ∀ j, (⟨g, j, none⟩ : Addr).block ≠ (⟨b, i, none⟩ : Addr).block := fun _ => fun e => h e.symm
  rw [World.cell?_setCell_far _ _ _ _ (hh 3), World.cell?_setCell_far _ _ _ _ (hh 2), World.cell?_setCell_far _ _ _ _ (hh 1), World.cell?_setCell_far _ _ _ _ (hh 0)]
  exact hc
/-- A list's cell and the four cells of its first element. -/
abbrev S5 (g0 : Nat) (v3 : Value) (b o : Nat) (y0 y1 y2 y3 : Value) (w : World) : Prop :=
  w.cell? ⟨g0, 3, none⟩ = some v3 ∧ w.cell? ⟨b, o, none⟩ = some y0 ∧ w.cell? ⟨b, o + 1, none⟩ = some y1 ∧ w.cell? ⟨b, o + 2, none⟩ = some y2 ∧ w.cell? ⟨b, o + 3, none⟩ = some y3
theorem S5.below {g0 : Nat} {v3 : Value} {b o : Nat} {y0 y1 y2 y3 : Value} {w w' : World} (h : S5 g0 v3 b o y0 y1 y2 y3 w) (hb : Below w.heap.size w w') : S5 g0 v3 b o y0 y1 y2 y3 w' := by
  obtain ⟨h0, h1, h2, h3, h4⟩ := h
  exact ⟨cells4 hb (World.block_lt_of_cell? w _ h0) _ h0, cells4 hb (World.block_lt_of_cell? w _ h1) _ h1, cells4 hb (World.block_lt_of_cell? w _ h2) _ h2, cells4 hb (World.block_lt_of_cell? w _ h3) _ h3, cells4 hb (World.block_lt_of_cell? w _ h4) _ h4⟩
theorem S5.alloc {g0 : Nat} {v3 : Value} {b o : Nat} {y0 y1 y2 y3 : Value} {w : World} (h : S5 g0 v3 b o y0 y1 y2 y3 w) (x : Obj) : S5 g0 v3 b o y0 y1 y2 y3 (w.alloc x) := h.below (below_alloc w x)
theorem S5.drew {g0 : Nat} {v3 : Value} {b o : Nat} {y0 y1 y2 y3 : Value} {w : World} (h : S5 g0 v3 b o y0 y1 y2 y3 w) : S5 g0 v3 b o y0 y1 y2 y3 w.drew := h.below (Below.refl _ _).drew
theorem S5.far {g0 : Nat} {v3 : Value} {b o : Nat} {y0 y1 y2 y3 : Value} {w : World} (h : S5 g0 v3 b o y0 y1 y2 y3 w) {g : Nat} (e1 : g0 ≠ g) (e2 : b ≠ g) (u0 u1 u2 u3 : Value) :
    S5 g0 v3 b o y0 y1 y2 y3 ((((w.setCell ⟨g, 0, none⟩ u0).setCell ⟨g, 1, none⟩ u1).setCell ⟨g, 2, none⟩ u2).setCell ⟨g, 3, none⟩ u3) := by
  obtain ⟨h0, h1, h2, h3, h4⟩ := h
  exact ⟨far4 e1 h0, far4 e2 h1, far4 e2 h2, far4 e2 h3, far4 e2 h4⟩
/-- A new box with a term. -/
def CutBox (w : World) (H : GH) (t : Tm) (v : Value) (wx : World) : Prop :=
  ∃ (g : Nat) (H' : GH) (a : Option Addr) (cap : Nat), v = .pointer (some ⟨g, 0, none⟩) ∧ Pure H w H' wx ∧ Rep H' t (tcells t a cap).toList ∧ wx.heap[g]? = some (tbox t a cap) ∧ H' g = none ∧ w.heap.size ≤ g
set_option maxHeartbeats 4000000 in
theorem eta_drop (t : Tm) (cs : List Value) (H : GH) (w : World) (hR : Rep H t cs) (hA : Agree H w) (hv : t.valid = true) (hsz : t.size ≤ SB) :
    Calls Try.prog 80 #[.agg cs.toArray] w fun e w' => ∃ H' cs', e = .returned (.tuple #[.agg cs'.toArray, .bool t.drop.2]) ∧ Pure H w H' w' ∧ Rep H' t.drop.1 cs' := by
  obtain ⟨a, cap, rfl, -, -, -, hT⟩ := hR.open_
  obtain ⟨hl0, hlc, hcm⟩ := hT.len
  unfold maxLen at hcm
  have E0 := Lib.hid (((Ext.refl (O := fun _ => False) hA).alloc (tbox t a cap)).alloc zbox)
  have B1 := Lib.hid (show ((w.alloc (tbox t a cap)).alloc zbox).heap[w.heap.size + 1]? = some zbox from heap_alloc_at _ _ _ (by simp))
  have hn : Hid (H (w.heap.size + 1) = none) := Lib.hid (hA.free (by omega))
  obtain ⟨-, z1, z2, z3, z4, -⟩ := box4 B1.out
  have E1 := Lib.hid (E0.out.store4 hn.out (by omega) (.int .i64 0) (.string ⟨#[]⟩) (.int .i64 0) (.slice none 0 0))
  have fin : ∀ (e : Ending) (w' : World), t.drop = (Tm.zero, false) → e = Ending.returned (.tuple #[.agg #[.int .i64 0, .string ⟨#[]⟩, .int .i64 0, .slice none 0 0], .bool false]) → Pure H w H w' →
      ∃ H' cs', e = .returned (.tuple #[.agg cs'.toArray, .bool t.drop.2]) ∧ Pure H w H' w' ∧ Rep H' t.drop.1 cs' := by
    intro e w' hd he hp
    rw [hd]
    exact ⟨H, _, he, hp, rep_zero H⟩
  have FIN := Lib.hid fin
  clear fin
  have hlen64 := hT.len
  cases h6 : (t.k == 6) with
  | false =>
    have hd := Lib.hid (show t.drop = (Tm.zero, false) by unfold Tm.drop; rw [if_pos (.inl (beq_eq_false_iff_ne.1 h6))])
    have h6' : (t.k != 6) = true := by rw [bne, h6]; rfl
    have hw1 := IntWalk.i64_in ((t.l.length : Int) - 1) (by omega)
    clear hl0 hlen64 hR hT hv hsz
    go_enter Try.func80, Try.ntmps80
    go_wp2_with fail
    exact bodyPost_ret (v := .tuple #[.agg #[.int .i64 0, .string ⟨#[]⟩, .int .i64 0, .slice none 0 0], .bool false]) (by simp [results, Try.results80, go_sem, z1, z2, z3, z4]) rfl (FIN.out _ _ hd.out rfl E0.out)
  | true =>
    have hk : t.k = 6 := beq_iff_eq.1 h6
    have h6' : (t.k != 6) = false := by rw [bne, h6]; rfl
    have hf := Lib.hid (Tm.rest_fit (B := Tm.far) (S := t.size) ⟨hv, Nat.le_refl _, by
      have : ∀ t : Tm, t.valid = true → t.bnd Tm.far = true := by
        intro t
        induction t using Tm.ind with
        | h k s n l ih =>
          intro hv
          obtain ⟨g1, g2⟩ := (Tm.valid_iff ..).1 hv
          exact (Tm.bnd_iff ..).2 ⟨fun e => by subst e; exact (Tm.ok1_bound.1 g1).2.2.1, fun u hu => ih u hu (g2 u hu)⟩
      exact this t hv⟩ hk)
    have h2 : 2 ≤ t.l.length := by
      cases t with
      | mk k s n l => simp only [Tm.k_mk] at hk; subst hk; exact (Tm.ok1_app.1 ((Tm.valid_iff ..).1 hv).1).2.2.1
    obtain ⟨x, hx⟩ : ∃ x, t.l[t.l.length - 1]? = some x := ⟨_, List.getElem?_eq_getElem (by omega)⟩
    obtain ⟨y, hy⟩ : ∃ y, t.l[0]? = some y := ⟨_, List.getElem?_eq_getElem (by omega)⟩
    have hgx : t.l.getD (t.l.length - 1) Tm.zero = x := by rw [List.getD_eq_getElem?_getD, hx]; rfl
    have hgy : t.l.getD 0 Tm.zero = y := by rw [List.getD_eq_getElem?_getD, hy]; rfl
    have hyv : y.valid = true := by
      cases t with
      | mk k s n l => exact ((Tm.valid_iff ..).1 hv).2 y (List.mem_of_getElem? hy)
    obtain ⟨b, o, ycs, rfl, -, hRy, hcy⟩ := hT.get hy
    obtain ⟨b', o', xcs, he, -, hRx, hcx⟩ := hT.get hx
    injection he with he
    injection he with he1 he2
    subst he1; subst he2
    have hTt := (hT.take (t.l.length - 1) (by omega)).drop 1 (by omega)
    have hdr := Lib.hid (show t.drop = if x.k ≠ 3 ∨ x.n ≠ 0 then (Tm.zero, false) else if t.rest.free 0 = true then (Tm.zero, false) else (t.rest.shift 0 (-1), true) by
      unfold Tm.drop; rw [hgx]; simp [hk])
    have hrs := Lib.hid (show t.rest = y.apply ((t.l.take (t.l.length - 1)).drop 1) by unfold Tm.rest; rw [hgy])
    have hap := Lib.hid (fun W hW => term_Apply y ycs ((t.l.take (t.l.length - 1)).drop 1) _ H W hRy hTt hW (Tm.shp_hd6 (Tm.shp_of_valid y hyv)) (by
      rw [← hrs.out]
      have h3 := hf.out.2
      unfold SB at hsz
      have : t.rest.l.length < t.rest.size := by cases t.rest with | mk k s n l => exact Tm.length_lt k s n l
      unfold LB; omega))
    rw [← hrs.out] at hap
    have hfr := Lib.hid (fun cs' H' W hR' hW => eta_Free t.rest 0 cs' H' W hR' hW (by have h3 := hf.out.2; unfold SB at hsz; unfold LB; omega) (by omega) (by omega))
    have hsh := Lib.hid (fun cs' H' W hR' hW => term_Shift t.rest 0 (-1) cs' H' W (Tm.shp_of_valid _ hf.out.1.v) (by have h3 := hf.out.2; unfold SB at hsz; unfold LB; omega) (by have h3 := hf.out.2; have h4 := Tm.shift_size 0 (-1) (Tm.shp_of_valid _ hf.out.1.v); unfold SB at hsz; unfold LB; omega) (Tm.shiftL_down hf.out.1.v (by have h3 := hf.out.2; omega)) hW hR')
    obtain ⟨ya, yc, rfl, -, -, -, -⟩ := hRy.open_
    obtain ⟨xa, xc, rfl, -, -, -, -⟩ := hRx.open_
    have d0 := hA.cell (hcy 0 _ rfl)
    have d1 := hA.cell (hcy 1 _ rfl)
    have d2 := hA.cell (hcy 2 _ rfl)
    have d3 := hA.cell (hcy 3 _ rfl)
    have c0 := hA.cell (hcx 0 _ rfl)
    have c2 := hA.cell (hcx 2 _ rfl)
    obtain ⟨m, hm⟩ : ∃ m, t.l.length = m + 1 := ⟨t.l.length - 1, by omega⟩
    rw [hm] at hap hx c0 c2 hlen64 h2
    simp only [Nat.add_zero, Nat.zero_mul, Nat.zero_add, Nat.add_sub_cancel, ← Nat.add_assoc] at d0 d1 d2 d3 c0 c2 hap h2
    have hbl : b < w.heap.size := World.block_lt_of_cell? w _ d0
    clear hcx hcy hTt hx hy hgx hgy hyv hRx hRy hT hR hl0 hsz
    have hw1 := IntWalk.i64_in ((m + 1 : Int) - 1) (by omega)
    have hm1 : ((m : Int) + 1 - 1) = m := by omega
    have hm2 : (m : Int) < (m : Int) + 1 := by omega
    have hm3 : (0 : Int) < (m : Int) + 1 := by omega
    clear hk
    have B1m := Lib.hid (show ((w.alloc (.cells #[.int .i64 t.k, .string t.s, .int .i64 t.n, .slice (some ⟨b, o, none⟩) (m + 1) cap] 30)).alloc zbox).heap[w.heap.size + 1]? = some zbox from by rw [← hm]; exact B1.out)
    have E0m := Lib.hid (show Pure H w H ((w.alloc (.cells #[.int .i64 t.k, .string t.s, .int .i64 t.n, .slice (some ⟨b, o, none⟩) (m + 1) cap] 30)).alloc zbox) from by rw [← hm]; exact E0.out)
    clear B1 E0 E1
    cases hc3 : (x.k == 3) with
    | false =>
      have hc3' : (x.k != 3) = true := by rw [bne, hc3]; rfl
      have hd : Hid (t.drop = (Tm.zero, false)) := Lib.hid (by rw [hdr.out, if_pos (.inl (beq_eq_false_iff_ne.1 hc3))])
      rw [hm]
      go_enter Try.func80, Try.ntmps80
      go_wp2_with fail
      exact bodyPost_ret (v := .tuple #[.agg #[.int .i64 0, .string ⟨#[]⟩, .int .i64 0, .slice none 0 0], .bool false]) (by simp [results, Try.results80, go_sem, z1, z2, z3, z4]) rfl (FIN.out _ _ hd.out rfl E0m.out)
    | true =>
      have hc3' : (x.k != 3) = false := by rw [bne, hc3]; rfl
      cases hn0 : (x.n == 0) with
      | false =>
        have hn0' : (x.n != 0) = true := by rw [bne, hn0]; rfl
        have hd : Hid (t.drop = (Tm.zero, false)) := Lib.hid (by rw [hdr.out, if_pos (.inr (beq_eq_false_iff_ne.1 hn0))])
        rw [hm]
        go_enter Try.func80, Try.ntmps80
        go_wp2_with fail
        exact bodyPost_ret (v := .tuple #[.agg #[.int .i64 0, .string ⟨#[]⟩, .int .i64 0, .slice none 0 0], .bool false]) (by simp [results, Try.results80, go_sem, z1, z2, z3, z4]) rfl (FIN.out _ _ hd.out rfl E0m.out)
      | true =>
        have hn0' : (x.n != 0) = false := by rw [bne, hn0]; rfl
        have hdr2 : Hid (t.drop = if t.rest.free 0 = true then (Tm.zero, false) else (t.rest.shift 0 (-1), true)) := Lib.hid (by
          rw [hdr.out, if_neg]
          have := beq_iff_eq.1 hc3
          have := beq_iff_eq.1 hn0
          omega)
        have e1 : (1 : Int) ≤ (cap : Int) := by omega
        have e2 : ¬ (cap = 1) := by omega
        have e3 : (1 : Int) ≤ (m : Int) := by omega
        have e4 : (m : Int) ≤ (cap : Int) := by omega
        have e5 : 1 ≤ m := by omega
        have e6 : m ≤ cap := by omega
        have e7 : 1 ≤ cap := by omega
        rw [hm]
        go_enter Try.func80, Try.ntmps80
        have AG1 := Lib.hid E0m.out.drew.agree
        have AG2 := Lib.hid (E0m.out.alloc zbox).drew.agree
        go_upto_region 4 with fail
        go_cut [5] from 32 (fun v wx => CutBox ((w.alloc (.cells #[.int .i64 t.k, .string t.s, .int .i64 t.n, .slice (some ⟨b, o, none⟩) (m + 1) cap] 30)).alloc zbox) H t.rest v wx)
        case first =>
          have hap2 := hap.out
          unfold midV at hap2
          have HAP := Lib.hid hap2
          clear hap2 hap
          have K : S5 w.heap.size (.slice (some ⟨b, o, none⟩) (m + 1) cap) b o (.int .i64 y.k) (.string y.s) (.int .i64 y.n) (.slice ya y.l.length yc) ((w.alloc (.cells #[.int .i64 t.k, .string t.s, .int .i64 t.n, .slice (some ⟨b, o, none⟩) (m + 1) cap] 30)).alloc zbox) := ⟨by go_simp, by go_simp, by go_simp, by go_simp, by go_simp⟩
          have BZ := Lib.hid (show (((w.alloc (.cells #[.int .i64 t.k, .string t.s, .int .i64 t.n, .slice (some ⟨b, o, none⟩) (m + 1) cap] 30)).alloc zbox).alloc zbox).drew.heap[w.heap.size + 1 + 1]? = some zbox from heap_alloc_at _ _ _ (by simp))
          have K0 := K.drew
          have K1 := (K.alloc zbox).drew
          have N1 : w.heap.size ≠ w.heap.size + 1 + 1 := by omega
          have N2 : b ≠ w.heap.size + 1 + 1 := by omega
          go_region_held3 (fun w' => w'.cell? ⟨w.heap.size, 3, none⟩ = some (.slice (some ⟨b, o, none⟩) (m + 1) cap) ∧ w'.cell? ⟨b, o, none⟩ = some (.int .i64 y.k) ∧ w'.cell? ⟨b, o + 1, none⟩ = some (.string y.s) ∧ w'.cell? ⟨b, o + 2, none⟩ = some (.int .i64 y.n) ∧ w'.cell? ⟨b, o + 3, none⟩ = some (.slice ya y.l.length yc)) (with_reducible (first | exact K0 | exact K1 | exact KJ | exact KJ.alloc _ | exact KJ.far N1 N2 _ _ _ _)) (first | (go_at_call 14; ((with_reducible refine (HAP.out _ AG1.out).mono ?_); rintro e w1 ⟨H1, cs1, rfl, X1, R1⟩; obtain ⟨ra, rc, rfl, -, -, -, -⟩ := R1.open_; have KJ := K0.below X1.below)) | (go_at_call 14; ((with_reducible refine (HAP.out _ AG2.out).mono ?_); rintro e w1 ⟨H1, cs1, rfl, X1, R1⟩; obtain ⟨ra, rc, rfl, -, -, -, -⟩ := R1.open_; have KJ := K1.below X1.below; obtain ⟨j0, j1, j2, j3, j4, j5, j6, j7, j8⟩ := box4 (Below.blk X1.below BZ.out))))
          · go_wp2_with fail
            go_meet
            exact ⟨w1.heap.size, H1, ra, rc, rfl, ((Ext.refl E0m.out.agree).drew.then X1).alloc _, R1, heap_alloc_new _ _, X1.agree.free (Nat.le_refl _), X1.size⟩
          · go_wp2_with fail
            go_meet
            have hz : w.heap.size + 1 + 1 < (((w.alloc (.cells #[.int .i64 t.k, .string t.s, .int .i64 t.n, .slice (some ⟨b, o, none⟩) (m + 1) cap] 30)).alloc zbox).alloc zbox).drew.heap.size := by simp
            have hn2 : H1 (w.heap.size + 1 + 1) = none := (X1.old _ hz).trans (hA.free (by omega))
            refine ⟨w.heap.size + 1 + 1, H1, ra, rc, rfl, (((Ext.refl E0m.out.agree).alloc zbox).drew.then X1).store4 hn2 (by simp) _ _ _ _, R1, blk_set4 _ _ _ _ (Below.blk X1.below BZ.out), hn2, by simp⟩
        case rest =>
          obtain ⟨g, H1, ra, rc, rfl, X1, R1, hg, hng, hwg⟩ := hcut
          have E1 := E0m.out.then X1
          obtain ⟨p0, p1, p2, p3, p4, p5, p6, p7, p8⟩ := box4 hg
          have HFR := Lib.hid (fun W hW => hfr.out _ H1 W R1 hW)
          have HSH := Lib.hid (fun W hW => hsh.out _ H1 W R1 hW)
          have q1 := Below.blk X1.below B1m.out
          clear hfr hsh hap R1
          go_wp2_with fail
          refine (HFR.out _ E1.agree).mono ?_
          rintro e w2 ⟨rfl, hb2⟩
          cases hfree : t.rest.free 0 with
          | true =>
            have hd : Hid (t.drop = (Tm.zero, false)) := Lib.hid (by rw [hdr2.out, if_pos hfree])
            obtain ⟨r0, r1, r2, r3, r4, r5, r6, r7, r8⟩ := box4 (Below.blk hb2 q1)
            have hn2 : H1 (w.heap.size + 1) = none := (X1.old _ (by simp)).trans hn.out
            have E2 := (E1.then_below hb2).store4 hn2 (by omega) (.int .i64 0) (.string ⟨#[]⟩) (.int .i64 0) (.slice none 0 0)
            have HF := Lib.hid hfree
            clear hfree
            go_wp2_with fail
            refine bodyPost_ret (v := .tuple #[.agg #[.int .i64 0, .string ⟨#[]⟩, .int .i64 0, .slice none 0 0], .bool false]) (by simp [results, Try.results80, go_sem, r1, r2, r3, r4]) rfl ?_
            rw [hd.out]
            exact ⟨H1, _, rfl, E2, rep_zero H1⟩
          | false =>
            have hd : Hid (t.drop = (t.rest.shift 0 (-1), true)) := Lib.hid (by rw [hdr2.out, if_neg (by rw [hfree]; exact Bool.false_ne_true)])
            obtain ⟨r0, r1, r2, r3, r4, r5, r6, r7, r8⟩ := box4 (Below.blk hb2 hg)
            have HF := Lib.hid hfree
            clear hfree p0 p1 p2 p3 p4 p5 p6 p7 p8
            go_wp2_with fail
            refine (HSH.out _ (E1.then_below hb2).agree).mono ?_
            rintro e w3 ⟨H3, cs3, rfl, X3, R3⟩
            have E3 := (E1.then_below hb2).then X3
            have hq := Below.blk hb2 q1
            obtain ⟨s0, s1, s2, s3, s4, s5, s6, s7, s8⟩ := box4 (Below.blk X3.below hq)
            have hn3 : H3 (w.heap.size + 1) = none := (X3.old _ (cell_lt hq)).trans ((X1.old _ (by simp)).trans hn.out)
            generalize hY : t.rest.shift 0 (-1) = Y at R3
            have HY := Lib.hid hY
            clear hY r0 r1 r2 r3 r4 r5 r6 r7 r8
            obtain ⟨ya', yc', rfl, -, -, -, -⟩ := R3.open_
            have E4 := E3.store4 hn3 (by omega) (.int .i64 Y.k) (.string Y.s) (.int .i64 Y.n) (.slice ya' Y.l.length yc')
            go_wp2_with fail
            refine bodyPost_ret (v := .tuple #[.agg #[.int .i64 Y.k, .string Y.s, .int .i64 Y.n, .slice ya' Y.l.length yc'], .bool true]) (by simp [results, Try.results80, go_sem, s1, s2, s3, s4]) rfl ?_
            rw [hd.out, HY.out]
            exact ⟨H3, _, rfl, E4, R3⟩
end Go.Proofs.Ytbdappbmlnpogaa
