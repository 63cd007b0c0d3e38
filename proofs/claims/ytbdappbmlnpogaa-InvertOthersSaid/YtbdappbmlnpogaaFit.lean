/- What stays true of terms while steps are done: valid, of bounded size and numbers. -/
import Derived.Test.YtbdappbmlnpogaaBeta
namespace Go.Proofs.Ytbdappbmlnpogaa
namespace Tm
mutual
/-- No number of what is bound is greater than so much. -/
def bnd (B : Int) : Tm → Bool | .mk k _ n l => (!(k == 3) || decide (n ≤ B)) && bndL B l
def bndL (B : Int) : List Tm → Bool | [] => true | t :: ts => t.bnd B && bndL B ts
end
theorem bnd_mk (B k s n l) : (mk k s n l).bnd B = ((!(k == 3) || decide (n ≤ B)) && bndL B l) := by rw [bnd]
theorem bndL_iff (B : Int) (l : List Tm) : bndL B l = true ↔ ∀ t ∈ l, t.bnd B = true := by
  induction l with
  | nil => rw [bndL]; simp
  | cons x xs ih => rw [bndL]; simp [ih]
theorem bnd_iff (B k s n l) : (mk k s n l).bnd B = true ↔ (k = 3 → n ≤ B) ∧ ∀ t ∈ l, t.bnd B = true := by
  rw [bnd_mk, Bool.and_eq_true, bndL_iff, Bool.or_eq_true, decide_eq_true_eq]
  by_cases h : k = 3 <;> simp [h]
theorem bnd_mono {B B' : Int} (h : B ≤ B') (t : Tm) : t.bnd B = true → t.bnd B' = true := by
  induction t using ind with
  | h k s n l ih =>
    rw [bnd_iff, bnd_iff]
    exact fun ⟨a, b⟩ => ⟨fun e => by have := a e; omega, fun t ht => ih t ht (b t ht)⟩
theorem valid_iff (k s n l) : (mk k s n l).valid = true ↔ ok1 (mk k s n l) = true ∧ ∀ t ∈ l, t.valid = true := by
  rw [valid_mk, Bool.and_eq_true, validL_iff]
theorem ok1_leaf {k s n l} (h : ok1 (mk k s n l) = true) (h5 : k ≠ 5) (h6 : k ≠ 6) : l = [] := by
  replace h : (if k = 0 then (isName s || isSym s) && (n == 0) && l.isEmpty
    else (s.size == 0) &&
      (if k = 1 then decide (1 ≤ n) && l.isEmpty
       else if k = 2 then l.isEmpty
       else if k = 3 ∨ k = 4 then decide (0 ≤ n ∧ n ≤ far) && l.isEmpty
       else if k = 5 then (n == 0) && (l.length == 1)
       else if k = 6 then (n == 0) && decide (2 ≤ l.length) && ((l.getD 0 zero).k != 6)
       else false)) = true := h
  by_cases h0 : k = 0
  · rw [if_pos h0] at h
    simp only [Bool.and_eq_true, List.isEmpty_iff] at h
    exact h.2
  rw [if_neg h0, if_neg h5, if_neg h6] at h
  by_cases h1 : k = 1
  · rw [if_pos h1] at h
    simp only [Bool.and_eq_true, List.isEmpty_iff] at h
    exact h.2.2
  rw [if_neg h1] at h
  by_cases h2 : k = 2
  · rw [if_pos h2] at h
    simp only [Bool.and_eq_true, List.isEmpty_iff] at h
    exact h.2
  rw [if_neg h2] at h
  by_cases h3 : k = 3 ∨ k = 4
  · rw [if_pos h3] at h
    simp only [Bool.and_eq_true, List.isEmpty_iff] at h
    exact h.2.2
  rw [if_neg h3] at h
  simp at h
theorem ok1_lam {s n l} : ok1 (mk 5 s n l) = true ↔ s.size = 0 ∧ n = 0 ∧ l.length = 1 := by
  rw [show ok1 (mk 5 s n l) = ((s.size == 0) && ((n == 0) && (l.length == 1))) from rfl]
  simp only [Bool.and_eq_true, beq_iff_eq]
theorem ok1_app {s n l} : ok1 (mk 6 s n l) = true ↔ s.size = 0 ∧ n = 0 ∧ 2 ≤ l.length ∧ (l.getD 0 zero).k ≠ 6 := by
  rw [show ok1 (mk 6 s n l) = ((s.size == 0) && ((n == 0) && decide (2 ≤ l.length) && ((l.getD 0 zero).k != 6))) from rfl]
  simp only [Bool.and_eq_true, beq_iff_eq, decide_eq_true_eq, bne_iff_ne, and_assoc]
theorem ok1_bound {s n l} : ok1 (mk 3 s n l) = true ↔ s.size = 0 ∧ 0 ≤ n ∧ n ≤ far ∧ l = [] := by
  rw [show ok1 (mk 3 s n l) = ((s.size == 0) && (decide (0 ≤ n ∧ n ≤ far) && l.isEmpty)) from rfl]
  simp only [Bool.and_eq_true, beq_iff_eq, decide_eq_true_eq, List.isEmpty_iff, and_assoc]
theorem size0 : (ByteArray.empty).size = 0 := rfl
/-- Apply keeps what is valid. -/
theorem valid_apply {f : Tm} {args : List Tm} (hf : f.valid = true) (ha : ∀ t ∈ args, t.valid = true) : (f.apply args).valid = true := by
  unfold apply
  split
  · exact hf
  · rename_i h0
    have hl : 0 < args.length := List.length_pos_iff.2 h0
    split
    · rename_i h
      cases f with
      | mk k s n l =>
        simp only [k_mk, l_mk] at h ⊢
        obtain ⟨rfl, hl0⟩ := h
        obtain ⟨h1, h2⟩ := (valid_iff ..).1 hf
        obtain ⟨-, -, h3, h4⟩ := ok1_app.1 h1
        refine (valid_iff ..).2 ⟨ok1_app.2 ⟨rfl, rfl, by simp; omega, ?_⟩, fun t ht => ?_⟩
        · cases l with
          | nil => simp at h3
          | cons x xs => simpa using h4
        · rcases List.mem_append.1 ht with ht | ht
          · exact h2 t ht
          · exact ha t ht
    · rename_i h
      refine (valid_iff ..).2 ⟨ok1_app.2 ⟨rfl, rfl, by simp; omega, ?_⟩, fun t ht => ?_⟩
      · simp only [List.getD_cons_zero]
        intro h6
        refine h ⟨h6, fun hl => ?_⟩
        cases f with
        | mk k s n l =>
          simp only [k_mk, l_mk] at h6 hl
          subst h6; subst hl
          have := (ok1_app.1 ((valid_iff ..).1 hf).1).2.2.1
          simp at this
      · rcases List.mem_cons.1 ht with rfl | ht
        · exact hf
        · exact ha t ht
theorem bnd_apply {B : Int} {f : Tm} {args : List Tm} (hf : f.bnd B = true) (ha : ∀ t ∈ args, t.bnd B = true) : (f.apply args).bnd B = true := by
  unfold apply
  split
  · exact hf
  · split
    · rename_i h
      cases f with
      | mk k s n l =>
        rw [bnd_iff] at hf ⊢
        refine ⟨by simp, fun t ht => ?_⟩
        rcases List.mem_append.1 ht with ht | ht
        · exact hf.2 t ht
        · exact ha t ht
    · rw [bnd_iff]
      refine ⟨by simp, fun t ht => ?_⟩
      rcases List.mem_cons.1 ht with rfl | ht
      · exact hf
      · exact ha t ht
theorem getD0_map (l : List Tm) (f : Tm → Tm) (h : 0 < l.length) : (l.map f).getD 0 zero = f (l.getD 0 zero) := by
  cases l with
  | nil => simp at h
  | cons x xs => rfl
theorem getD0_mem {l : List Tm} (h : 0 < l.length) : l.getD 0 zero ∈ l := by
  cases l with
  | nil => simp at h
  | cons x xs => simp
/-- Other leaves keep what is valid. -/
theorem valid_walk (f : Tm → Int → Tm) (t : Tm) : ∀ d, t.valid = true → (∀ p ∈ t.leaves d, p.1.valid = true → (f p.1 p.2).valid = true) → (t.walk f d).valid = true := by
  induction t using ind with
  | h k s n l ih =>
    intro d hv hl
    rw [walk_mk]
    rw [leaves] at hl
    obtain ⟨h1, h2⟩ := (valid_iff ..).1 hv
    split
    · rename_i hk
      rw [if_pos hk] at hl
      have hout : ∀ u ∈ walkL f l (d + if k = 5 then 1 else 0), u.valid = true := by
        rw [walkL_map]
        intro u hu
        obtain ⟨x, hx, rfl⟩ := List.mem_map.1 hu
        exact ih x hx _ (h2 x hx) (fun p hp => hl p (leaves_of_mem hx _ hp))
      have hlen : (walkL f l (d + if k = 5 then 1 else 0)).length = l.length := by rw [walkL_map, List.length_map]
      generalize walkL f l (d + if k = 5 then 1 else 0) = out at hout hlen
      unfold remake
      split
      · rename_i h
        exact valid_apply (hout _ (getD0_mem (by omega))) (fun t ht => hout t (List.mem_of_mem_drop ht))
      · rename_i h
        refine (valid_iff ..).2 ⟨?_, hout⟩
        rcases hk with rfl | rfl
        · rw [ok1_lam] at h1 ⊢
          omega
        · rw [ok1_app] at h1 ⊢
          refine ⟨h1.1, h1.2.1, by omega, fun h6 => h ⟨rfl, by omega, h6, h1.2.2.2⟩⟩
    · rename_i hk
      rw [if_neg hk] at hl
      exact hl (mk k s n l, d) (List.mem_singleton.2 rfl) hv
theorem bnd_walk (B B' : Int) (f : Tm → Int → Tm) (t : Tm) : ∀ d, t.bnd B = true → (∀ p ∈ t.leaves d, p.1.bnd B = true → (f p.1 p.2).bnd B' = true) → (t.walk f d).bnd B' = true := by
  induction t using ind with
  | h k s n l ih =>
    intro d hv hl
    rw [walk_mk]
    rw [leaves] at hl
    obtain ⟨h1, h2⟩ := (bnd_iff ..).1 hv
    split
    · rename_i hk
      rw [if_pos hk] at hl
      have hout : ∀ u ∈ walkL f l (d + if k = 5 then 1 else 0), u.bnd B' = true := by
        rw [walkL_map]
        intro u hu
        obtain ⟨x, hx, rfl⟩ := List.mem_map.1 hu
        exact ih x hx _ (h2 x hx) (fun p hp => hl p (leaves_of_mem hx _ hp))
      generalize walkL f l (d + if k = 5 then 1 else 0) = out at hout
      unfold remake
      split
      · rename_i h
        exact bnd_apply (hout _ (getD0_mem (by omega))) (fun t ht => hout t (List.mem_of_mem_drop ht))
      · rw [bnd_iff]
        exact ⟨fun e => by omega, hout⟩
    · rename_i hk
      rw [if_neg hk] at hl
      exact hl (mk k s n l, d) (List.mem_singleton.2 rfl) hv
/-- The leaves of a term that is valid have nothing within; they stand below no more abstractions than there are terms. -/
theorem leaves_valid (t : Tm) : ∀ d, t.valid = true → ∀ p ∈ t.leaves d, p.1.valid = true ∧ p.1.l = [] ∧ p.1.k ≠ 5 ∧ p.1.k ≠ 6 ∧ d ≤ p.2 ∧ p.2 + 1 ≤ d + t.size := by
  induction t using ind with
  | h k s n l ih =>
    intro d hv p hp
    obtain ⟨h1, h2⟩ := (valid_iff ..).1 hv
    rw [leaves] at hp
    split at hp
    · have hm : ∃ x ∈ l, p ∈ x.leaves (d + if k = 5 then 1 else 0) := by
        revert hp
        generalize (d + if k = 5 then 1 else 0) = D
        clear ih hv h1 h2
        intro hp
        induction l with
        | nil => rw [leavesL] at hp; cases hp
        | cons x xs ihx =>
          rw [leavesL] at hp
          rcases List.mem_append.1 hp with hp | hp
          · exact ⟨x, by simp, hp⟩
          · obtain ⟨y, hy, h⟩ := ihx hp
            exact ⟨y, by simp [hy], h⟩
      obtain ⟨x, hx, hp⟩ := hm
      obtain ⟨a, b, c, e, g, h⟩ := ih x hx _ (h2 x hx) p hp
      have := size_lt (k := k) (s := s) (n := n) hx
      refine ⟨a, b, c, e, ?_, ?_⟩
      · split at g <;> omega
      · split at h <;> omega
    · rename_i hk
      have : p = (mk k s n l, d) := by simpa using hp
      subst this
      refine ⟨hv, ok1_leaf h1 (by omega) (by omega), by simp; omega, by simp; omega, by simp, ?_⟩
      have := size_pos (mk k s n l)
      simp only []
      omega
theorem bnd_leaf {B : Int} (t : Tm) : ∀ d, t.bnd B = true → ∀ p ∈ t.leaves d, p.1.bnd B = true := by
  induction t using ind with
  | h k s n l ih =>
    intro d hv p hp
    obtain ⟨h1, h2⟩ := (bnd_iff ..).1 hv
    rw [leaves] at hp
    split at hp
    · have hm : ∃ x ∈ l, p ∈ x.leaves (d + if k = 5 then 1 else 0) := by
        revert hp
        generalize (d + if k = 5 then 1 else 0) = D
        clear ih hv h1 h2
        intro hp
        induction l with
        | nil => rw [leavesL] at hp; cases hp
        | cons x xs ihx =>
          rw [leavesL] at hp
          rcases List.mem_append.1 hp with hp | hp
          · exact ⟨x, by simp, hp⟩
          · obtain ⟨y, hy, h⟩ := ihx hp
            exact ⟨y, by simp [hy], h⟩
      obtain ⟨x, hx, hp⟩ := hm
      exact ih x hx _ (h2 x hx) p hp
    · have : p = (mk k s n l, d) := by simpa using hp
      subst this
      exact hv
theorem bound_of_valid {t : Tm} (h : t.valid = true) (h3 : t.k = 3) : 0 ≤ t.n ∧ t.n ≤ far := by
  cases t with
  | mk k s n l =>
    simp only [k_mk] at h3
    subst h3
    have := ok1_bound.1 ((valid_iff ..).1 h).1
    exact ⟨this.2.1, this.2.2.1⟩
theorem bnd_moved {B B' : Int} {u : Tm} {b : Int} (h : u.bnd B = true) (hb : u.k = 3 → u.n + b ≤ B') (hl : u.l = []) : (u.moved b).bnd B' = true := by
  unfold moved
  rw [bnd_iff, hl]
  exact ⟨hb, by simp⟩
theorem valid_moved {u : Tm} {b : Int} (h : u.valid = true) (h3 : u.k = 3) (h0 : 0 ≤ u.n + b) (h1 : u.n + b ≤ far) : (u.moved b).valid = true := by
  cases u with
  | mk k s n l =>
    simp only [k_mk, n_mk] at h3 h0 h1
    subst h3
    have := ok1_bound.1 ((valid_iff ..).1 h).1
    unfold moved
    exact (valid_iff ..).2 ⟨ok1_bound.2 ⟨this.1, h0, h1, this.2.2.2⟩, by simp [this.2.2.2]⟩
/-- Shift upwards. -/
theorem valid_shift {t : Tm} {B a b : Int} (ht : t.valid = true) (hB : t.bnd B = true) (hb : 0 ≤ b) (hf : B + b ≤ far) : (t.shift a b).valid = true ∧ (t.shift a b).bnd (B + b) = true := by
  constructor
  · refine valid_walk _ t 0 ht fun p hp hv => ?_
    have h1 := bnd_leaf t 0 hB p hp
    unfold shiftF
    split
    · rename_i h
      have h2 := bound_of_valid hv h.1
      have h3 : p.1.n ≤ B := by
        generalize p.1 = q at h1 h
        cases q with
        | mk k s n l => exact ((bnd_iff ..).1 h1).1 h.1
      exact valid_moved hv h.1 (by omega) (by omega)
    · exact hv
  · refine bnd_walk B (B + b) _ t 0 hB fun p hp h1 => ?_
    have h4 := leaves_valid t 0 ht p hp
    unfold shiftF
    split
    · rename_i h
      have h3 : p.1.n ≤ B := by
        generalize p.1 = q at h1 h
        cases q with
        | mk k s n l => exact ((bnd_iff ..).1 h1).1 h.1
      exact bnd_moved h1 (fun _ => by omega) h4.2.1
    · exact bnd_mono (by omega) _ h1
theorem remake_size_le (k s n) (l out : List Tm) (h : ∀ u ∈ out, u.shp = true) : (remake k s n l out).size ≤ 1 + sizeL out := by
  unfold remake
  split
  · rename_i hc
    cases out with
    | nil => simp at hc
    | cons x xs =>
      simp only [List.getD_cons_zero, List.drop_succ_cons, List.drop_zero, sizeL_cons] at hc ⊢
      have hh := shp_hd6 (h x (by simp)) hc.2.2.1
      unfold apply
      split
      · omega
      · rw [if_pos ⟨hc.2.2.1, hh⟩, size_mk, sizeL_append]
        cases x with
        | mk k s n l => rw [size_mk]; simp only [l_mk]; omega
  · rw [size_mk]; omega
theorem shp_iff (k s n l) : (mk k s n l).shp = true ↔ (k = 6 → l ≠ []) ∧ ∀ t ∈ l, t.shp = true := by
  rw [shp_mk, Bool.and_eq_true, shpL_iff]
  by_cases h : k = 6 <;> cases l <;> simp [h]
theorem shp_apply {f : Tm} {args : List Tm} (hf : f.shp = true) (ha : ∀ t ∈ args, t.shp = true) : (f.apply args).shp = true := by
  unfold apply
  split
  · exact hf
  · split
    · rename_i h
      cases f with
      | mk k s n l =>
        rw [shp_iff] at hf ⊢
        refine ⟨fun _ e => h.2 (List.append_eq_nil_iff.1 e).1, fun t ht => ?_⟩
        rcases List.mem_append.1 ht with ht | ht
        · exact hf.2 t ht
        · exact ha t ht
    · rw [shp_iff]
      refine ⟨by simp, fun t ht => ?_⟩
      rcases List.mem_cons.1 ht with rfl | ht
      · exact hf
      · exact ha t ht
theorem shp_walk (f : Tm → Int → Tm) (t : Tm) : ∀ d, t.shp = true → (∀ p ∈ t.leaves d, p.1.shp = true → (f p.1 p.2).shp = true) → (t.walk f d).shp = true := by
  induction t using ind with
  | h k s n l ih =>
    intro d hv hl
    rw [walk_mk]
    rw [leaves] at hl
    obtain ⟨h1, h2⟩ := (shp_iff ..).1 hv
    split
    · rename_i hk
      rw [if_pos hk] at hl
      have hout : ∀ u ∈ walkL f l (d + if k = 5 then 1 else 0), u.shp = true := by
        rw [walkL_map]
        intro u hu
        obtain ⟨x, hx, rfl⟩ := List.mem_map.1 hu
        exact ih x hx _ (h2 x hx) (fun p hp => hl p (leaves_of_mem hx _ hp))
      have hlen : (walkL f l (d + if k = 5 then 1 else 0)).length = l.length := by rw [walkL_map, List.length_map]
      generalize walkL f l (d + if k = 5 then 1 else 0) = out at hout hlen
      unfold remake
      split
      · exact shp_apply (hout _ (getD0_mem (by omega))) (fun t ht => hout t (List.mem_of_mem_drop ht))
      · rw [shp_iff]
        refine ⟨fun e h0 => ?_, hout⟩
        have := h1 e
        subst h0
        exact this (List.eq_nil_of_length_eq_zero hlen.symm)
    · rename_i hk
      rw [if_neg hk] at hl
      exact hl (mk k s n l, d) (List.mem_singleton.2 rfl) hv
/-- A walk's size, if its leaves become no larger than told. -/
theorem walk_size_le (f : Tm → Int → Tm) (c : Tm → Int → Nat) (cl : List Tm → Int → Nat) (hc : ∀ k s n l d, (k = 5 ∨ k = 6) → c (.mk k s n l) d = 1 + cl l (d + if k = 5 then 1 else 0)) (hn : ∀ d, cl [] d = 0) (hcons : ∀ t ts d, cl (t :: ts) d = c t d + cl ts d) (t : Tm) :
    ∀ d, t.shp = true → (∀ p ∈ t.leaves d, p.1.shp = true → (f p.1 p.2).shp = true ∧ (f p.1 p.2).size ≤ c p.1 p.2) → (t.walk f d).size ≤ c t d := by
  induction t using ind with
  | h k s n l ih =>
    intro d hv hl
    rw [walk_mk]
    rw [leaves] at hl
    obtain ⟨h1, h2⟩ := (shp_iff ..).1 hv
    split
    · rename_i hk
      rw [if_pos hk] at hl
      rw [hc k s n l d hk]
      have hout : ∀ u ∈ walkL f l (d + if k = 5 then 1 else 0), u.shp = true := by
        rw [walkL_map]
        intro u hu
        obtain ⟨x, hx, rfl⟩ := List.mem_map.1 hu
        exact shp_walk f x _ (h2 x hx) (fun p hp hv => (hl p (leaves_of_mem hx _ hp) hv).1)
      refine Nat.le_trans (remake_size_le k s n l _ hout) ?_
      refine Nat.add_le_add_left ?_ 1
      clear hout hv h1
      revert hl
      generalize (d + if k = 5 then 1 else 0) = D
      intro hl
      induction l with
      | nil => simp
      | cons x xs ihx =>
        rw [walkL_cons, sizeL_cons, hcons]
        refine Nat.add_le_add (ih x (by simp) D (h2 x (by simp)) fun p hp => hl p (by rw [leavesL]; simp [hp])) (ihx (fun t ht => ih t (by simp [ht])) (fun t ht => h2 t (by simp [ht])) fun p hp => hl p (by rw [leavesL]; simp [hp]))
    · rename_i hk
      rw [if_neg hk] at hl
      exact (hl (mk k s n l, d) (List.mem_singleton.2 rfl) hv).2
theorem leaf_shp {u : Tm} (h : u.k ≠ 6) (hl : u.l = []) : u.shp = true := by
  cases u with
  | mk k s n l =>
    simp only [k_mk, l_mk] at h hl
    subst hl
    exact (shp_iff ..).2 ⟨fun e => absurd e h, by simp⟩
theorem leaf_size {u : Tm} (hl : u.l = []) : u.size = 1 := by
  cases u with
  | mk k s n l =>
    simp only [l_mk] at hl
    subst hl
    rw [size_mk, sizeL_nil]
theorem shp_moved {u : Tm} (b : Int) (h : u.shp = true) : (u.moved b).shp = true := by
  cases u with
  | mk k s n l => rw [shp_iff] at h; exact (shp_iff ..).2 h
theorem shp_shiftF {u : Tm} (a b d : Int) (h : u.shp = true) : (shiftF a b u d).shp = true := by
  unfold shiftF
  split
  · exact shp_moved b h
  · exact h
theorem size_shiftF (u : Tm) (a b d : Int) : (shiftF a b u d).size = u.size := by
  unfold shiftF
  split
  · exact moved_size u b
  · rfl
theorem shp_shift {t : Tm} (a b : Int) (h : t.shp = true) : (t.shift a b).shp = true := shp_walk _ t 0 h fun p _ hp => shp_shiftF a b p.2 hp
theorem shift_size {t : Tm} (a b : Int) (h : t.shp = true) : (t.shift a b).size ≤ t.size :=
  walk_size_le (shiftF a b) (fun t _ => t.size) (fun l _ => sizeL l) (fun k s n l _ _ => size_mk k s n l) (fun _ => rfl) (fun t ts _ => sizeL_cons t ts) t 0 h
    fun p _ hp => ⟨shp_shiftF a b p.2 hp, by rw [size_shiftF]; exact Nat.le_refl _⟩
theorem occursL_nonneg (l : List Tm) (i : Int) : 0 ≤ occursL l i := by
  have := (occursL_take l i l.length).1
  rwa [List.take_length] at this
theorem shp_substF {s u : Tm} (i d : Int) (hs : s.shp = true) (h : u.shp = true) : (substF i s u d).shp = true := by
  unfold substF
  split
  · exact h
  · split
    · exact shp_shift 0 d hs
    · exact shp_moved _ h
theorem subst_size {t s : Tm} (i : Int) (h : t.shp = true) (hs : s.shp = true) : (t.subst i s).size ≤ t.size + (t.occurs i).toNat * s.size := by
  have := walk_size_le (substF i s) (fun t d => t.size + (t.occurs (d + i)).toNat * s.size) (fun l d => sizeL l + (occursL l (d + i)).toNat * s.size) ?_ ?_ ?_ t 0 h ?_
  · rw [show (0 : Int) + i = i by omega] at this
    exact this
  · intro k s' n l d hk
    simp only [size_mk]
    rw [occurs_mk, if_neg (by omega), Nat.add_assoc]
    have : (if k = 5 then d + i + 1 else d + i) = (d + if k = 5 then 1 else 0) + i := by split <;> omega
    rw [this]
  · intro d
    rw [occursL]
    simp
  · intro t ts d
    simp only [sizeL_cons]
    rw [occursL, Int.toNat_add (occurs_le t _).1 (occursL_nonneg ts _), Nat.add_mul]
    omega
  · intro p hp hshp
    refine ⟨shp_substF i p.2 hs hshp, ?_⟩
    unfold substF
    split
    · omega
    · split
      · rename_i h1 h2
        have h3 := shift_size 0 p.2 hs
        have h4 : p.1.occurs (p.2 + i) = 1 := by
          generalize p.1 = q at h1 h2
          cases q with
          | mk k s n l =>
            rw [occurs_mk, if_pos]
            simp only [k_mk, n_mk] at h1 h2
            omega
        simp only [h4]
        simp
        omega
      · rw [moved_size]; omega
theorem gsize_valid (t : Tm) : t.valid = true → t.gsize = t.size := by
  induction t using ind with
  | h k s n l ih =>
    intro hv
    obtain ⟨h1, h2⟩ := (valid_iff ..).1 hv
    rw [gsize, size_mk]
    split
    · clear h1 hv
      have : gsizeL l = sizeL l := by
        induction l with
        | nil => rw [gsizeL]; rfl
        | cons x xs ihx =>
          rw [gsizeL, sizeL_cons, ih x (by simp) (h2 x (by simp)), ihx (fun t ht => ih t (by simp [ht])) (fun t ht => h2 t (by simp [ht]))]
          omega
      omega
    · rw [ok1_leaf h1 (by omega) (by omega)]
      simp
theorem shiftL_valid {t : Tm} {d : Int} (h : t.valid = true) (hs : t.size ≤ SB) (hd : 0 ≤ d) (hd1 : d ≤ SB) : ∀ p ∈ t.leaves 0, ShiftL 0 d p.1 p.2 := by
  intro p hp
  obtain ⟨h1, h2, h3, h4, h5, h6⟩ := leaves_valid t 0 h p hp
  unfold SB at *
  refine ⟨fun e => absurd e h4, ?_, ?_, fun e => ?_⟩
  · rw [leaf_size h2]; unfold LB; omega
  · unfold I64; omega
  · have := bound_of_valid h1 e
    unfold I64 far at *
    omega
theorem substL_valid {t u : Tm} (h : t.valid = true) (hu : u.valid = true) (hs : t.size ≤ SB) (hsu : u.size ≤ SB) : ∀ p ∈ t.leaves 0, SubstL 0 u p.1 p.2 := by
  intro p hp
  obtain ⟨h1, h2, h3, h4, h5, h6⟩ := leaves_valid t 0 h p hp
  have hz := shift_size 0 p.2 (shp_of_valid u hu)
  have hsl := shiftL_valid hu hsu (d := p.2) (by omega) (by unfold SB at *; omega)
  unfold SB at *
  refine ⟨fun e => absurd e h4, ?_, ?_, fun e => ?_, fun _ _ => ⟨shp_of_valid u hu, ?_, ?_, hsl⟩⟩
  · rw [leaf_size h2]; unfold LB; omega
  · unfold I64; omega
  · have := bound_of_valid h1 e
    unfold I64 far at *
    omega
  · unfold LB; omega
  · unfold LB; omega
theorem contract_size {t u : Tm} (h : t.valid = true) (hu : u.valid = true) (h0 : (contract t u).2 = 0) : (t.subst 0 u).size ≤ 4096 ∧ (contract t u).1 = t.subst 0 u := by
  unfold contract at h0 ⊢
  split at h0
  · simp at h0
  · rename_i hn
    rw [if_neg hn]
    refine ⟨?_, rfl⟩
    rw [gsize_valid t h, gsize_valid u hu] at hn
    have h1 := subst_size 0 (shp_of_valid t h) (shp_of_valid u hu)
    have h2 := (occurs_le t 0).1
    have h3 : (((t.occurs 0).toNat * u.size : Nat) : Int) = t.occurs 0 * u.size := by
      rw [Int.natCast_mul, Int.toNat_of_nonneg h2]
    omega
/-- Valid, of bounded size, of bounded numbers. -/
structure Fit (S : Nat) (B : Int) (t : Tm) : Prop where
  v : t.valid = true
  s : t.size ≤ S
  b : t.bnd B = true
theorem Fit.mono {S S' : Nat} {B B' : Int} {t : Tm} (h : Fit S B t) (hS : S ≤ S') (hB : B ≤ B') : Fit S' B' t := ⟨h.v, Nat.le_trans h.s hS, bnd_mono hB t h.b⟩
theorem Fit.mem {S : Nat} {B : Int} {k : Int} {s : ByteArray} {n : Int} {l : List Tm} {u : Tm} (h : Fit S B (Tm.mk k s n l)) (hu : u ∈ l) : Fit S B u :=
  ⟨((valid_iff ..).1 h.v).2 u hu, by have := size_lt (k := k) (s := s) (n := n) hu; have := h.s; omega, ((bnd_iff ..).1 h.b).2 u hu⟩
theorem subst_fit {t u : Tm} {S : Nat} {B : Int} (h : Fit S B t) (hu : Fit S B u) (hB : B + S ≤ far) : (t.subst 0 u).valid = true ∧ (t.subst 0 u).bnd (B + S) = true := by
  constructor
  · refine valid_walk _ t 0 h.v fun p hp hv => ?_
    obtain ⟨h1, h2, h3, h4, h5, h6⟩ := leaves_valid t 0 h.v p hp
    have hs := h.s
    unfold substF
    split
    · exact hv
    · split
      · exact (valid_shift hu.v hu.b (by omega) (by omega)).1
      · rename_i h7 h8
        have := bound_of_valid hv (by omega)
        exact valid_moved hv (by omega) (by omega) (by omega)
  · refine bnd_walk B (B + S) _ t 0 h.b fun p hp hb => ?_
    obtain ⟨h1, h2, h3, h4, h5, h6⟩ := leaves_valid t 0 h.v p hp
    have hs := h.s
    unfold substF
    split
    · exact bnd_mono (by omega) _ hb
    · split
      · exact bnd_mono (by omega) _ (valid_shift hu.v hu.b (by omega) (by omega) (a := 0) (b := p.2)).2
      · refine bnd_moved (B := B) hb (fun e => ?_) h2
        generalize p.1 = q at hb e
        cases q with
        | mk k s n l =>
          have := ((bnd_iff ..).1 hb).1 e
          simp only [n_mk]
          omega
end Tm
end Go.Proofs.Ytbdappbmlnpogaa
