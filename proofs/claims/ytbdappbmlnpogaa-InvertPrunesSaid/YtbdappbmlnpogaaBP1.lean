/- Terms as data: the functions of packages term, beta, eta, clause on plain trees. No program in sight. -/
namespace Go.Proofs.Ytbdappbmlnpogaa

inductive Tm where
  | mk (k : Int) (s : ByteArray) (n : Int) (l : List Tm)

namespace Tm
def k : Tm → Int | .mk k _ _ _ => k
def s : Tm → ByteArray | .mk _ s _ _ => s
def n : Tm → Int | .mk _ _ n _ => n
def l : Tm → List Tm | .mk _ _ _ l => l
@[simp] theorem k_mk (k s n l) : (mk k s n l).k = k := rfl
@[simp] theorem s_mk (k s n l) : (mk k s n l).s = s := rfl
@[simp] theorem n_mk (k s n l) : (mk k s n l).n = n := rfl
@[simp] theorem l_mk (k s n l) : (mk k s n l).l = l := rfl
theorem eta (t : Tm) : mk t.k t.s t.n t.l = t := by cases t; rfl
/-- The zero term. -/
def zero : Tm := .mk 0 ByteArray.empty 0 []
instance : Inhabited Tm := ⟨zero⟩

/-- Induction: a term's parts are those of its list. -/
theorem ind {P : Tm → Prop} (h : ∀ k s n l, (∀ t ∈ l, P t) → P (.mk k s n l)) : ∀ t, P t :=
  fun t => Tm.rec (motive_1 := P) (motive_2 := fun l => ∀ t ∈ l, P t) (fun k s n l ih => h k s n l ih)
    (fun t ht => absurd ht (by simp)) (fun a l ha hl t ht => by
      rcases List.mem_cons.1 ht with rfl | ht
      · exact ha
      · exact hl t ht) t

mutual
/-- How many terms there are in one, wherever they stand. -/
def size : Tm → Nat | .mk _ _ _ l => 1 + sizeL l
def sizeL : List Tm → Nat | [] => 0 | t :: ts => t.size + sizeL ts
end
theorem size_mk (k s n l) : (mk k s n l).size = 1 + sizeL l := by rw [size]
theorem size_pos (t : Tm) : 0 < t.size := by cases t; rw [size_mk]; omega
@[simp] theorem sizeL_nil : sizeL [] = 0 := by rw [sizeL]
@[simp] theorem sizeL_cons (t ts) : sizeL (t :: ts) = t.size + sizeL ts := by rw [sizeL]
theorem sizeL_append (a b : List Tm) : sizeL (a ++ b) = sizeL a + sizeL b := by
  induction a with
  | nil => simp
  | cons x xs ih => simp [ih]; omega
theorem length_le_sizeL (l : List Tm) : l.length ≤ sizeL l := by
  induction l with
  | nil => simp
  | cons x xs ih => have := size_pos x; simp; omega
theorem size_le_sizeL {t : Tm} {l : List Tm} (h : t ∈ l) : t.size ≤ sizeL l := by
  induction l with
  | nil => cases h
  | cons x xs ih =>
    rcases List.mem_cons.1 h with rfl | h
    · simp
    · have := ih h; simp; omega
theorem size_lt {t : Tm} {k s n l} (h : t ∈ l) : t.size < (mk k s n l).size := by
  have := size_le_sizeL h; rw [size_mk]; omega
theorem length_lt (k s n) (l : List Tm) : l.length < (mk k s n l).size := by
  have := length_le_sizeL l; rw [size_mk]; omega

/-! ### names -/
end Tm
def smallB (c : UInt8) : Bool := 97 ≤ c.toNat && c.toNat ≤ 122
def greatB (c : UInt8) : Bool := (65 ≤ c.toNat && c.toNat ≤ 90) || c.toNat == 95
def digitB (c : UInt8) : Bool := 48 ≤ c.toNat && c.toNat ≤ 57
def signL : List UInt8 := [43, 45, 42, 47, 60, 62, 61, 38, 124, 94, 126, 64, 35, 36, 63, 58]
def signB (c : UInt8) : Bool := signL.contains c
def insideB (c : UInt8) : Bool := smallB c || greatB c || digitB c || c.toNat == 39
def fitsB (s : ByteArray) : Bool := s.size ≠ 0 && s.size ≤ 32
def isName (s : ByteArray) : Bool := fitsB s && smallB (s.data.toList.getD 0 0) && s.data.toList.all insideB
def isSym (s : ByteArray) : Bool := fitsB s && (s.data.toList.all signB || (s.data.toList == [44] || s.data.toList == [59] || s.data.toList == [33]))
namespace Tm
def far : Int := 4611686018427387904
/-- What a term itself must be, whatever the terms in it. -/
def ok1 : Tm → Bool
  | .mk k s n l =>
    if k = 0 then (isName s || isSym s) && (n == 0) && l.isEmpty
    else (s.size == 0) &&
      (if k = 1 then decide (1 ≤ n) && l.isEmpty
       else if k = 2 then l.isEmpty
       else if k = 3 ∨ k = 4 then decide (0 ≤ n ∧ n ≤ far) && l.isEmpty
       else if k = 5 then (n == 0) && (l.length == 1)
       else if k = 6 then (n == 0) && decide (2 ≤ l.length) && ((l.getD 0 zero).k != 6)
       else false)
mutual
def valid : Tm → Bool | .mk k s n l => ok1 (.mk k s n l) && validL l
def validL : List Tm → Bool | [] => true | t :: ts => t.valid && validL ts
end
theorem valid_mk (k s n l) : (mk k s n l).valid = (ok1 (mk k s n l) && validL l) := by rw [valid]
@[simp] theorem validL_nil : validL [] = true := by rw [validL]
@[simp] theorem validL_cons (t ts) : validL (t :: ts) = (t.valid && validL ts) := by rw [validL]
theorem validL_iff (l : List Tm) : validL l = true ↔ ∀ t ∈ l, t.valid = true := by
  induction l with
  | nil => simp
  | cons x xs ih => simp [ih]

/-! ### Same -/
mutual
def same : Tm → Tm → Bool | .mk k s n l, .mk k' s' n' l' => (k == k') && (s.data.toList == s'.data.toList) && (n == n') && sameL l l'
def sameL : List Tm → List Tm → Bool
  | [], [] => true
  | t :: ts, u :: us => t.same u && sameL ts us
  | _, _ => false
end
theorem same_mk (k s n l k' s' n' l') : (mk k s n l).same (mk k' s' n' l') = ((k == k') && (s.data.toList == s'.data.toList) && (n == n') && sameL l l') := by rw [same]
theorem sameL_nil : sameL [] [] = true := by rw [sameL]
theorem sameL_cons (t ts u us) : sameL (t :: ts) (u :: us) = (t.same u && sameL ts us) := by rw [sameL]
theorem sameL_nc (u us) : sameL [] (u :: us) = false := by rw [sameL]; all_goals simp
theorem sameL_cn (t ts) : sameL (t :: ts) [] = false := by rw [sameL]; all_goals simp
theorem ba_ext {a b : ByteArray} (h : a.data.toList = b.data.toList) : a = b := by
  cases a with | mk a => cases b with | mk b => cases a; cases b; simp at h; rw [h]
theorem same_iff (t u : Tm) : t.same u = true ↔ t = u := by
  induction t using ind generalizing u with
  | h k s n l ih =>
    cases u with
    | mk k' s' n' l' =>
      have hl : sameL l l' = true ↔ l = l' := by
        clear k s n k' s' n'
        induction l generalizing l' with
        | nil => cases l' <;> simp [sameL_nil, sameL_nc]
        | cons x xs ihx =>
          cases l' with
          | nil => simp [sameL_cn]
          | cons y ys =>
            rw [sameL_cons, Bool.and_eq_true, ih x (by simp) y, ihx (fun t ht => ih t (by simp [ht])) ys]
            simp
      rw [same_mk]
      simp only [Bool.and_eq_true, beq_iff_eq, hl, mk.injEq]
      constructor
      · rintro ⟨⟨⟨rfl, hs⟩, rfl⟩, rfl⟩
        exact ⟨rfl, ba_ext hs, rfl, rfl⟩
      · rintro ⟨rfl, rfl, rfl, rfl⟩
        exact ⟨⟨⟨rfl, rfl⟩, rfl⟩, rfl⟩
theorem same_self (t : Tm) : t.same t = true := (same_iff t t).2 rfl
instance : DecidableEq Tm := fun t u => if h : t.same u = true then .isTrue ((same_iff t u).1 h) else .isFalse (fun e => h ((same_iff t u).2 e))

/-! ### what stands within; size, leaves -/
/-- Has it terms within that count? -/
def inner (t : Tm) : Bool := t.k == 5 || t.k == 6
def by_ (t : Tm) : Int := if t.k = 5 then 1 else 0
mutual
/-- term.Size. -/
def gsize : Tm → Int | .mk k _ _ l => 1 + (if k = 5 ∨ k = 6 then gsizeL l else 0)
def gsizeL : List Tm → Int | [] => 0 | t :: ts => t.gsize + gsizeL ts
end
mutual
/-- The leaves of a term, and below how many abstractions they stand. -/
def leaves : Tm → Int → List (Tm × Int)
  | .mk k s n l, d => if k = 5 ∨ k = 6 then leavesL l (d + if k = 5 then 1 else 0) else [(.mk k s n l, d)]
def leavesL : List Tm → Int → List (Tm × Int) | [], _ => [] | t :: ts, d => t.leaves d ++ leavesL ts d
end
def mx (a b : Int) : Int := if a < b then b else a
def looseStep (a : Int) (p : Tm × Int) : Int := if p.1.k = 3 then max a (p.1.n - p.2 + 1) else a
def loose (t : Tm) : Int := (t.leaves 0).foldl looseStep 0
def varsStep (a : List Int) (p : Tm × Int) : List Int := if p.1.k = 4 ∧ p.1.n ∉ a then a ++ [p.1.n] else a
def vars (t : Tm) : List Int := (t.leaves 0).foldl varsStep []

/-! ### Apply, walk, Shift, Subst, Inst, Lams -/
def apply (f : Tm) (args : List Tm) : Tm :=
  if args = [] then f else if f.k = 6 ∧ f.l ≠ [] then .mk 6 ByteArray.empty 0 (f.l ++ args) else .mk 6 ByteArray.empty 0 (f :: args)
/-- What is made of a term whose parts have become others. -/
def remake (k : Int) (s : ByteArray) (n : Int) (l out : List Tm) : Tm :=
  if k = 6 ∧ 1 < out.length ∧ (out.getD 0 zero).k = 6 ∧ (l.getD 0 zero).k ≠ 6 then apply (out.getD 0 zero) (out.drop 1) else .mk k s n out
mutual
def walk (f : Tm → Int → Tm) : Tm → Int → Tm
  | .mk k s n l, d => if k = 5 ∨ k = 6 then remake k s n l (walkL f l (d + if k = 5 then 1 else 0)) else f (.mk k s n l) d
def walkL (f : Tm → Int → Tm) : List Tm → Int → List Tm | [], _ => [] | t :: ts, d => t.walk f d :: walkL f ts d
end
theorem walk_mk (f k s n l d) : (mk k s n l).walk f d = if k = 5 ∨ k = 6 then remake k s n l (walkL f l (d + if k = 5 then 1 else 0)) else f (mk k s n l) d := by rw [walk]
@[simp] theorem walkL_nil (f d) : walkL f [] d = [] := by rw [walkL]
@[simp] theorem walkL_cons (f t ts d) : walkL f (t :: ts) d = t.walk f d :: walkL f ts d := by rw [walkL]
theorem walkL_map (f l d) : walkL f l d = l.map fun t => t.walk f d := by
  induction l with
  | nil => simp
  | cons x xs ih => simp [ih]
def moved (t : Tm) (by_ : Int) : Tm := .mk t.k t.s (t.n + by_) t.l
def shiftF (from_ by_ : Int) (u : Tm) (d : Int) : Tm := if u.k = 3 ∧ d + from_ ≤ u.n then moved u by_ else u
def shift (t : Tm) (from_ by_ : Int) : Tm := t.walk (shiftF from_ by_) 0
def substF (i : Int) (s : Tm) (u : Tm) (d : Int) : Tm :=
  if u.k ≠ 3 ∨ u.n < d + i then u else if u.n = d + i then s.shift 0 d else moved u (-1)
def subst (t : Tm) (i : Int) (s : Tm) : Tm := t.walk (substF i s) 0
def instF (l : List Tm) (u : Tm) (d : Int) : Tm := if u.k = 4 ∧ 0 ≤ u.n ∧ u.n < l.length then (l.getD u.n.toNat zero).shift 0 d else u
def inst (t : Tm) (l : List Tm) : Tm := t.walk (instF l) 0
def lamsN : Nat → Tm → Tm | 0, t => t | n + 1, t => lamsN n (.mk 5 ByteArray.empty 0 [t])
def lams (n : Int) (t : Tm) : Tm := lamsN n.toNat t
end Tm
end Go.Proofs.Ytbdappbmlnpogaa
