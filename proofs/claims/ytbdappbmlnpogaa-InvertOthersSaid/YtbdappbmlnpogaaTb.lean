/- Packages beta, eta, clause on plain trees. -/
import Derived.Test.YtbdappbmlnpogaaTm
namespace Go.Proofs.Ytbdappbmlnpogaa
namespace Tm
mutual
def occurs : Tm → Int → Int
  | .mk k _ n l, i => if k = 3 ∧ n = i then 1 else occursL l (if k = 5 then i + 1 else i)
def occursL : List Tm → Int → Int | [], _ => 0 | t :: ts, i => t.occurs i + occursL ts i
end
theorem occurs_mk (k s n l i) : (mk k s n l).occurs i = if k = 3 ∧ n = i then 1 else occursL l (if k = 5 then i + 1 else i) := by rw [occurs]
theorem occursL_append (a b : List Tm) (i : Int) : occursL (a ++ b) i = occursL a i + occursL b i := by
  induction a with
  | nil => rw [List.nil_append, occursL]; omega
  | cons x xs ih => rw [List.cons_append, occursL, occursL, ih]; omega
theorem occurs_le (t : Tm) : ∀ i, 0 ≤ t.occurs i ∧ t.occurs i ≤ t.size := by
  induction t using ind with
  | h k s n l ih =>
    intro i
    have hl : ∀ j, 0 ≤ occursL l j ∧ occursL l j ≤ sizeL l := by
      intro j
      induction l with
      | nil => rw [occursL]; simp
      | cons x xs ihx =>
        have h1 := ih x (by simp) j
        have h2 := ihx (fun t ht => ih t (by simp [ht]))
        rw [occursL, sizeL_cons]; omega
    rw [occurs_mk, size_mk]
    split
    · omega
    · have := hl (if k = 5 then i + 1 else i); omega
theorem occursL_take (l : List Tm) (i : Int) (j : Nat) : 0 ≤ occursL (l.take j) i ∧ occursL (l.take j) i ≤ sizeL l := by
  have h : ∀ l : List Tm, 0 ≤ occursL l i ∧ occursL l i ≤ sizeL l := by
    intro l
    induction l with
    | nil => rw [occursL]; simp
    | cons x xs ihx => have h1 := occurs_le x i; rw [occursL, sizeL_cons]; omega
  have h1 := h (l.take j)
  have h2 : sizeL l = sizeL (l.take j) + sizeL (l.drop j) := by rw [← sizeL_append, List.take_append_drop]
  omega
def occursV (t : Tm) (i : Int) : Int := if t.valid then t.occurs i else 0
/-- beta.contract: the term and the error. -/
def contract (body arg : Tm) : Tm × Int :=
  if 4096 < body.gsize + body.occurs 0 * arg.gsize then (zero, 80) else (body.subst 0 arg, 0)
def contractV (body arg : Tm) : Tm × Int := if body.valid ∧ arg.valid then contract body arg else (zero, 1)
/-! ### eta -/
def free (t : Tm) (i : Int) : Bool := decide (0 < t.occursV i)
/-- What stands ahead of a body's last argument. -/
def rest (t : Tm) : Tm := apply (t.l.getD 0 zero) ((t.l.take (t.l.length - 1)).drop 1)
def drop (t : Tm) : Tm × Bool :=
  if t.k ≠ 6 ∨ (t.l.getD (t.l.length - 1) zero).k ≠ 3 ∨ (t.l.getD (t.l.length - 1) zero).n ≠ 0 then (zero, false)
  else if free t.rest 0 then (zero, false) else (t.rest.shift 0 (-1), true)
mutual
/-- eta.short (of a term that is valid). -/
def short : Tm → Tm
  | .mk k s n l =>
    if k = 5 then
      let b := (shortL l).getD 0 zero
      if (drop b).2 then (drop b).1 else lams 1 b
    else if k = 6 then apply ((shortL l).getD 0 zero) ((shortL l).drop 1)
    else .mk k s n l
def shortL : List Tm → List Tm | [] => [] | t :: ts => t.short :: shortL ts
end
theorem shortL_map (l : List Tm) : shortL l = l.map short := by
  induction l with
  | nil => rw [shortL]; rfl
  | cons x xs ih => rw [shortL, ih]; rfl
def shortV (t : Tm) : Tm := if t.valid then t.short else t
def leafV (t : Tm) : Tm × Bool := if t.valid then (if t.short.k = 3 ∨ t.short.k = 1 then (t.short, true) else (zero, false)) else (zero, false)
/-! ### clause -/
def split (t : Tm) : Tm × List Tm := if t.k ≠ 6 ∨ t.valid = false then (t, []) else (t.l.getD 0 zero, t.l.drop 1)
end Tm
end Go.Proofs.Ytbdappbmlnpogaa
