/- Rows of the call's own, read and written at a place. -/
import Derived.Test.YtbdappbmlnpogaaStp
namespace Go.Proofs.Ytbdappbmlnpogaa
open Go Go.RowKit
set_option maxRecDepth 100000
/-- Cells written one behind the other. -/
def setRow (w : World) (g : Nat) : Nat → List Value → World
  | _, [] => w
  | o, v :: vs => setRow (w.setCell ⟨g, o, none⟩ v) g (o + 1) vs
def setArr (c : Array Value) : Nat → List Value → Array Value
  | _, [] => c
  | o, v :: vs => setArr (c.setIfInBounds o v) (o + 1) vs
theorem setArr_size (vs : List Value) : ∀ (c : Array Value) (o : Nat), (setArr c o vs).size = c.size := by
  induction vs with
  | nil => intro c o; rfl
  | cons v vs ih => intro c o; rw [setArr, ih]; simp
theorem setArr_get (vs : List Value) : ∀ (c : Array Value) (o j : Nat), o + vs.length ≤ c.size → (setArr c o vs)[j]? = if o ≤ j ∧ j < o + vs.length then vs[j - o]? else c[j]? := by
  induction vs with
  | nil => intro c o j h; rw [setArr, if_neg (by simp only [List.length_nil]; omega)]
  | cons v vs ih =>
    intro c o j h
    simp only [List.length_cons] at h
    rw [setArr, ih _ _ _ (by simp; omega)]
    by_cases h1 : j = o
    · subst h1
      rw [if_neg (by omega), if_pos ⟨Nat.le_refl _, by simp⟩, Array.getElem?_setIfInBounds_self_of_lt (by omega)]
      simp
    · rw [Array.getElem?_setIfInBounds_ne (by omega)]
      by_cases h2 : o + 1 ≤ j ∧ j < o + 1 + vs.length
      · rw [if_pos h2, if_pos ⟨by omega, by simp; omega⟩]
        rw [show j - o = (j - (o + 1)) + 1 by omega, List.getElem?_cons_succ]
      · rw [if_neg h2, if_neg (by simp only [List.length_cons]; omega)]
theorem setRow_heap {e : TypeId} {fz : Nat × Nat} {g : Nat} (vs : List Value) : ∀ (w : World) (c : Array Value) (o : Nat), w.heap[g]? = some (.cells c e fz) → (setRow w g o vs).heap[g]? = some (.cells (setArr c o vs) e fz) := by
  induction vs with
  | nil => intro w c o h; exact h
  | cons v vs ih =>
    intro w c o h
    rw [setRow, setArr]
    apply ih
    simp [World.setCell, Array.getElem?_modify, h]
theorem setRow_far {g k : Nat} (h : k ≠ g) (vs : List Value) : ∀ (w : World) (o : Nat), (setRow w g o vs).heap[k]? = w.heap[k]? := by
  induction vs with
  | nil => intro w o; rfl
  | cons v vs ih => intro w o; rw [setRow, ih]; exact Below.heap_setCell w ⟨g, o, none⟩ _ k h
theorem setRow_size {g : Nat} (vs : List Value) : ∀ (w : World) (o : Nat), (setRow w g o vs).heap.size = w.heap.size := by
  induction vs with
  | nil => intro w o; rfl
  | cons v vs ih => intro w o; rw [setRow, ih]; simp [World.setCell]
theorem Ext.setRow {O : Nat → Prop} {H H1 : GH} {w : World} {g : Nat} (hn : H1 g = none) (ho : g < w.heap.size → O g) (vs : List Value) : ∀ (w1 : World) (o : Nat), Ext O H w H1 w1 → Ext O H w H1 (setRow w1 g o vs) := by
  induction vs with
  | nil => intro w1 o h; exact h
  | cons v vs ih => intro w1 o h; exact ih _ _ (h.setCell (p := ⟨g, o, none⟩) hn ho v)
section
variable {α : Type} {H : GH} {w : World} {base : Nat} {e : TypeId} {sz : Nat} {P : α → List Value → Prop} {v : Value} {xs : List α}
/-- An element's cells. -/
theorem Own.get (h : Own H w base e sz P v xs) (hP : ∀ x cs, P x cs → cs.length = sz) {i : Nat} {x : α} (hi : xs[i]? = some x) :
    ∃ g cap cs, v = .slice (some ⟨g, 0, none⟩) xs.length cap ∧ base ≤ g ∧ P x cs ∧ (∀ j u, cs[j]? = some u → w.cell? ⟨g, i * sz + j, none⟩ = some u) ∧ (∀ o, w.frozen? ⟨g, o, none⟩ = false) ∧ xs.length ≤ cap ∧ cap ≤ maxLen ∧ g < w.heap.size := by
  obtain ⟨C, hr, hf, hx⟩ := h
  have hlt := (List.getElem?_eq_some_iff.1 hi).1
  rcases hr.2 with ⟨hv, h0⟩ | ⟨g, cap, cur, rfl, hb, hh, h1, h2, h3, h4⟩
  · omega
  · refine ⟨g, cap, _, rfl, hb, hx i x hi, fun j u hu => ?_, fun o => (blk_cells hh o).2, h1, h2, cell_lt hh⟩
    rw [(blk_cells hh _).1]
    have hj : j < sz := by
      have := (List.getElem?_eq_some_iff.1 hu).1
      rw [hP _ _ (hx i x hi)] at this
      exact this
    rw [List.getElem?_take, if_pos hj, List.getElem?_drop, ← h4, List.getElem?_take] at hu
    split at hu
    · simpa using hu
    · cases hu
/-- An element is written. -/
theorem Own.set (h : Own H w base e sz P v xs) {g n cap : Nat} (hv : v = .slice (some ⟨g, 0, none⟩) n cap) {i : Nat} (hi : i < xs.length) {y : α} {vs : List Value} (hl : vs.length = sz) (hy : P y vs) :
    Own H (setRow w g (i * sz) vs) base e sz P v (xs.set i y) := by
  obtain ⟨C, hr, hf, hx⟩ := h
  rcases hr.2 with ⟨hv', h0⟩ | ⟨g', cap', cur, hv', hb, hh, h1, h2, h3, h4⟩
  · rw [hv] at hv'; injection hv' with hv'; cases hv'
  · rw [hv] at hv'
    injection hv' with e1 e2 e3
    injection e1 with e1
    injection e1 with e1
    subst e1; subst e2; subst e3; subst hv
    have hcl := hr.1
    have hbound : i * sz + vs.length ≤ cur.size := by
      rw [hl, h3]
      have : i * sz + sz = (i + 1) * sz := by rw [Nat.succ_mul]
      rw [this]
      exact Nat.mul_le_mul_right _ (by omega)
    have hlen : ((setArr cur (i * sz) vs).toList.take (xs.length * sz)).length = xs.length * sz := by
      have hs : (setArr cur (i * sz) vs).toList.length = cap * sz := by
        rw [show (setArr cur (i * sz) vs).toList.length = (setArr cur (i * sz) vs).size from rfl, setArr_size, h3]
      rw [List.length_take, hs]
      exact Nat.min_eq_left (Nat.mul_le_mul_right _ h1)
    refine ⟨(setArr cur (i * sz) vs).toList.take (xs.length * sz), ⟨by rw [List.length_set]; exact hlen, .inr ⟨g, cap, setArr cur (i * sz) vs, by rw [List.length_set], hb, setRow_heap vs w cur _ hh, by rw [List.length_set]; exact h1, h2, by rw [setArr_size]; exact h3, by rw [List.length_set]⟩⟩, hf, fun k x hk => ?_⟩
    have hklt : k < xs.length := by
      have := (List.getElem?_eq_some_iff.1 hk).1
      rwa [List.length_set] at this
    have hkb : k * sz + sz ≤ xs.length * sz := by
      have : k * sz + sz = (k + 1) * sz := by rw [Nat.succ_mul]
      rw [this]
      exact Nat.mul_le_mul_right _ hklt
    have hget : ∀ j, j < sz → (((setArr cur (i * sz) vs).toList.take (xs.length * sz)).drop (k * sz))[j]? = if k = i then vs[j]? else (C.drop (k * sz))[j]? := by
      intro j hj
      rw [List.getElem?_drop, List.getElem?_take, if_pos (by omega), Array.getElem?_toList, setArr_get _ _ _ _ hbound, hl]
      by_cases hki : k = i
      · subst hki
        rw [if_pos (by omega), if_pos rfl, show k * sz + j - k * sz = j by omega]
      · have hne : ¬ (i * sz ≤ k * sz + j ∧ k * sz + j < i * sz + sz) := by
          rintro ⟨a, b⟩
          rcases Nat.lt_or_ge k i with h | h
          · have : k * sz + sz = (k + 1) * sz := by rw [Nat.succ_mul]
            have := Nat.mul_le_mul_right sz (show k + 1 ≤ i from h)
            omega
          · have : i * sz + sz = (i + 1) * sz := by rw [Nat.succ_mul]
            have := Nat.mul_le_mul_right sz (show i + 1 ≤ k by omega)
            omega
        rw [if_neg hne, if_neg hki, List.getElem?_drop, ← h4, List.getElem?_take, if_pos (by omega), Array.getElem?_toList]
    by_cases hki : k = i
    · subst hki
      rw [List.getElem?_set_self hklt] at hk
      injection hk with hk
      subst hk
      have : (((setArr cur (k * sz) vs).toList.take (xs.length * sz)).drop (k * sz)).take sz = vs := by
        apply List.ext_getElem?
        intro j
        rw [List.getElem?_take]
        split
        · rename_i hj; rw [hget j hj, if_pos rfl]
        · rw [List.getElem?_eq_none (by omega)]
      rw [this]
      exact hy
    · rw [List.getElem?_set_ne (by omega)] at hk
      have : (((setArr cur (i * sz) vs).toList.take (xs.length * sz)).drop (k * sz)).take sz = (C.drop (k * sz)).take sz := by
        apply List.ext_getElem?
        intro j
        rw [List.getElem?_take, List.getElem?_take]
        split
        · rename_i hj; rw [hget j hj, if_neg hki]
        · rfl
      rw [this]
      exact hx k x hk
end
end Go.Proofs.Ytbdappbmlnpogaa
