/- Package invert on plain data: what Args and flex make of fuel and lengths. -/
import Derived.Test.YtbdappbmlnpogaaImage
namespace Go.Proofs.Ytbdappbmlnpogaa
open Go Go.RowKit
set_option maxRecDepth 100000
namespace St
theorem headF_le (S : St) : ∀ (m : Nat) (t : Tm) (f : Int), (headF S m t f).2.2 ≤ f ∧ (0 ≤ f → f.toNat ≤ m → 0 ≤ (headF S m t f).2.2) := by
  intro m
  induction m with
  | zero => intro t f; rw [headF]; split <;> exact ⟨Int.le_refl _, fun h _ => h⟩
  | succ m ih =>
    intro t f
    rw [headF]
    split
    · exact ⟨Int.le_refl _, fun h _ => h⟩
    · split
      · exact ⟨Int.le_refl _, fun h _ => h⟩
      · rename_i h
        have h1 : 0 < f := by
          by_cases h2 : f ≤ 0
          · exact absurd (Or.inr h2) h
          · omega
        have := ih (S.step t).1 (f - 1)
        exact ⟨by omega, fun _ h3 => this.2 (by omega) (by omega)⟩
theorem head_le (S : St) (t : Tm) (f : Int) : (S.head t f).2.2 ≤ f ∧ (0 ≤ f → 0 ≤ (S.head t f).2.2) := by
  have := headF_le S f.toNat t f
  exact ⟨this.1, fun h => this.2 h (Nat.le_refl _)⟩
/-- Fuel is spent, never made. -/
def Spends (g : Tm → Int → Tm × Int × Int) : Prop := ∀ t f, 0 ≤ f → (g t f).2.1 = 0 → 0 ≤ (g t f).2.2 ∧ (g t f).2.2 ≤ f
theorem mapF_spends {g : Tm → Int → Tm × Int × Int} (hg : Spends g) : ∀ (l acc : List Tm) (f : Int), 0 ≤ f → (mapF g acc l f).2.1 = 0 → 0 ≤ (mapF g acc l f).2.2 ∧ (mapF g acc l f).2.2 ≤ f := by
  intro l
  induction l with
  | nil => intro acc f hf _; rw [mapF]; exact ⟨hf, Int.le_refl _⟩
  | cons t ts ih =>
    intro acc f hf h
    rw [mapF] at h ⊢
    split at h
    · rename_i h1; exact absurd h h1
    · rename_i h1
      rw [if_neg h1]
      have h1 : (g t f).2.1 = 0 := by simpa using h1
      have h2 := hg t f hf h1
      have h3 := ih _ _ h2.1 h
      exact ⟨h3.1, by omega⟩
theorem fullF_spends (S : St) : ∀ (m : Nat) (t : Tm) (f : Int), (fullF S m t f).2.1 = 0 → 0 ≤ (fullF S m t f).2.2 ∧ (fullF S m t f).2.2 ≤ f - 1 := by
  intro m
  induction m with
  | zero => intro t f h; rw [fullF] at h; simp at h
  | succ m ih =>
    intro t f h
    rw [fullF] at h ⊢
    split at h
    · simp at h
    · rename_i h0
      rw [if_neg h0]
      split at h
      · rename_i h1; exact absurd h h1
      · rename_i h1
        rw [if_neg h1]
        split at h
        · rename_i h2; exact absurd h h2
        · rename_i h2
          rw [if_neg h2]
          have h2 : (kidsF (fullF S m) (S.head t (f - 1)).1 (S.head t (f - 1)).2.2).2.1 = 0 := by simpa using h2
          have hh := head_le S t (f - 1)
          have hs : Spends (fullF S m) := fun t f _ h => ⟨(ih t f h).1, by have := (ih t f h).2; omega⟩
          have hk : 0 ≤ (kidsF (fullF S m) (S.head t (f - 1)).1 (S.head t (f - 1)).2.2).2.2 ∧ (kidsF (fullF S m) (S.head t (f - 1)).1 (S.head t (f - 1)).2.2).2.2 ≤ (S.head t (f - 1)).2.2 := by
            unfold kidsF at h2 ⊢
            split at h2
            · rename_i h6; rw [if_pos h6]; exact mapF_spends hs _ _ _ (hh.2 (by omega)) h2
            · rename_i h6; rw [if_neg h6]; exact mapF_spends hs _ _ _ (hh.2 (by omega)) h2
          exact ⟨hk.1, by have := hk.2; have := hh.1; dsimp only; omega⟩
theorem Full_spends (S : St) (t : Tm) (f : Int) (h : (S.Full t f).2.2 = 0) : 0 ≤ (S.Full t f).2.1 ∧ (S.Full t f).2.1 ≤ f - 1 := by
  unfold Full at h ⊢
  split at h
  · rename_i h1; exact absurd h h1
  · rename_i h1
    rw [if_neg h1]
    unfold runV at h1 ⊢
    split at h1
    · simp at h1
    · rename_i h2
      rw [if_neg h2]
      split at h1
      · rename_i h3; exact absurd h3 h1
      · rename_i h3
        rw [if_neg h3]
        exact fullF_spends S f.toNat t f (by simpa [full] using h3)
theorem argsL_fuel (S : St) (lv : Int) : ∀ (l out : List Tm) (f : Int), 0 ≤ f ∨ l ≠ [] → (S.argsL lv out l f).2.2 = 0 → (S.argsL lv out l f).1.length = out.length + l.length ∧ 0 ≤ (S.argsL lv out l f).2.1 ∧ (S.argsL lv out l f).2.1 + l.length ≤ f := by
  intro l
  induction l with
  | nil => intro out f hf _; rw [argsL]; simp at hf ⊢; exact hf
  | cons t ts ih =>
    intro out f hf h
    rw [argsL] at h ⊢
    split at h
    · rename_i h1; exact absurd h h1
    · rename_i h1
      rw [if_neg h1]
      split at h
      · simp at h
      · rename_i h2
        rw [if_neg h2]
        have hs := Full_spends S t f (by simpa using h1)
        have := ih (out ++ [(S.Full t f).1.leafV.1]) (S.Full t f).2.1 (.inl hs.1) h
        simp only [List.length_append, List.length_cons, List.length_nil] at this ⊢
        push_cast at this ⊢
        omega
theorem args_fuel (S : St) (x : Int) (l : List Tm) (f : Int) (hf : 0 ≤ f) (h : (S.args x l f).2.2 = 0) : (S.args x l f).1.length = l.length ∧ 0 ≤ (S.args x l f).2.1 ∧ (S.args x l f).2.1 + l.length ≤ f := by
  unfold args at h ⊢
  split at h
  · simp at h
  · rename_i h1
    rw [if_neg h1]
    simpa using argsL_fuel S _ l [] f (.inl hf) h
theorem args_known (S : St) (x : Int) (l : List Tm) (f : Int) (h : (S.args x l f).2.2 = 0) : (S.info x).2 = true := by
  unfold args at h
  split at h
  · simp at h
  · rename_i h1
    cases hx : (S.info x).2 with
    | false => exact absurd (.inl hx) h1
    | true => rfl
end St
namespace Ic
theorem flexA_append (c : Ic) (k n : Int) (a b : List Tm) : ∀ i, flexA c k n (a ++ b) i = ((flexA c k n a i).1 ++ (flexA c k n b (i + a.length)).1, (flexA c k n a i).2 ++ (flexA c k n b (i + a.length)).2) := by
  induction a with
  | nil => intro i; simp [flexA]
  | cons x xs ih =>
    intro i
    rw [List.cons_append, flexA, flexA]
    have e : i + ((x :: xs).length : Int) = i + 1 + xs.length := by simp; omega
    rw [e]
    split
    · rw [ih]; rfl
    · rw [ih]
theorem flexB_append (c : Ic) (k lv : Int) (a b : List Tm) : ∀ i, flexB c k lv (a ++ b) i = ((flexB c k lv a i).1 ++ (flexB c k lv b (i + a.length)).1, (flexB c k lv a i).2 ++ (flexB c k lv b (i + a.length)).2) := by
  induction a with
  | nil => intro i; simp [flexB]
  | cons x xs ih =>
    intro i
    rw [List.cons_append, flexB, flexB]
    have e : i + ((x :: xs).length : Int) = i + 1 + xs.length := by simp; omega
    rw [e]
    split
    · rw [ih]; rfl
    · rw [ih]
theorem flexA_take (c : Ic) (k n : Int) (l : List Tm) (j : Nat) (t : Tm) (h : l[j]? = some t) : flexA c k n (l.take (j + 1)) 0 =
    if (c.image t k).2 then ((flexA c k n (l.take j) 0).1 ++ [leafT 3 (n - 1 - j)], (flexA c k n (l.take j) 0).2 ++ [(c.image t k).1]) else flexA c k n (l.take j) 0 := by
  have hj := (List.getElem?_eq_some_iff.1 h).1
  rw [List.take_add_one, h, flexA_append]
  have : ((l.take j).length : Int) = j := by rw [List.length_take]; omega
  rw [this, Option.toList_some, flexA, flexA]
  split <;> simp
theorem flexB_take (c : Ic) (k lv : Int) (l : List Tm) (j : Nat) (t : Tm) (h : l[j]? = some t) : flexB c k lv (l.take (j + 1)) 0 =
    if c.lv < lv ∧ t.k = 1 ∧ t.n ≤ lv then ((flexB c k lv (l.take j) 0).1 ++ [t], (flexB c k lv (l.take j) 0).2 ++ [leafT 3 (k + c.L.length - 1 - j)]) else flexB c k lv (l.take j) 0 := by
  have hj := (List.getElem?_eq_some_iff.1 h).1
  rw [List.take_add_one, h, flexB_append]
  have : ((l.take j).length : Int) = j := by rw [List.length_take]; omega
  rw [this, Option.toList_some, flexB, flexB]
  split <;> simp
theorem flexA_len (c : Ic) (k n : Int) (l : List Tm) : ∀ i, (flexA c k n l i).1.length ≤ l.length ∧ (flexA c k n l i).2.length = (flexA c k n l i).1.length ∧ Tm.sizeL (flexA c k n l i).1 ≤ l.length := by
  induction l with
  | nil => intro i; simp [flexA]
  | cons x xs ih =>
    intro i
    have := ih (i + 1)
    rw [flexA]
    split
    · have h1 := size_leafT 3 (n - 1 - i)
      simp only [List.length_cons, Tm.sizeL_cons]; omega
    · simp only [List.length_cons]; omega
theorem isLeaf_size {t : Tm} (h : t.isLeaf = true) : t.size = 1 := by
  unfold Tm.isLeaf at h
  cases t with
  | mk k s n l =>
    simp only [Bool.and_eq_true, Bool.or_eq_true, beq_iff_eq, Tm.k_mk] at h
    have := Tm.ok1_leaf ((Tm.valid_iff ..).1 h.1).1 (by omega) (by omega)
    subst this
    rw [Tm.size_mk]; simp
theorem flexB_len (c : Ic) (k lv : Int) (l : List Tm) (hl : ∀ u ∈ l, u.isLeaf = true) : ∀ i, (flexB c k lv l i).1.length ≤ l.length ∧ (flexB c k lv l i).2.length = (flexB c k lv l i).1.length ∧ Tm.sizeL (flexB c k lv l i).1 ≤ l.length := by
  induction l with
  | nil => intro i; simp [flexB]
  | cons x xs ih =>
    intro i
    have := ih (fun u hu => hl u (by simp [hu])) (i + 1)
    rw [flexB]
    split
    · have h1 := isLeaf_size (hl x (by simp))
      simp only [List.length_cons, Tm.sizeL_cons]; omega
    · simp only [List.length_cons]; omega
end Ic
end Go.Proofs.Ytbdappbmlnpogaa
