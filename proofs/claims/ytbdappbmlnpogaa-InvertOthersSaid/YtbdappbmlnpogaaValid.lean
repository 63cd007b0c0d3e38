/- term.Valid. -/
import Derived.Test.YtbdappbmlnpogaaSl
namespace Go.Proofs.Ytbdappbmlnpogaa
open Go Go.Proofs Go.RowKit
set_option maxRecDepth 100000
theorem any_not_valid (l : List Tm) : (l.any fun t => !t.valid) = !Tm.validL l := by
  induction l with
  | nil => rfl
  | cons x xs ih => rw [List.any_cons, Tm.validL_cons, ih, Bool.not_and]
/-- A closure that says '!Valid(u)'. -/
def NotValid (g : FuncId) : Prop := ∀ (t : Tm) (cs : List Value) (H : GH) (w : World), Rep H t cs → Agree H w →
  (∀ (W : World), Below w.heap.size w W → Calls Try.prog 8 #[.agg cs.toArray] W fun e w' => e = .returned (.bool t.valid) ∧ Below W.heap.size W w') →
  Calls Try.prog g #[.agg cs.toArray] w fun e w' => e = .returned (.bool (!t.valid)) ∧ Below w.heap.size w w'
theorem term_Valid1 : NotValid 27 := by
  intro t cs H w hR hA hv
  obtain ⟨a, cap, rfl, -⟩ := hR.open_
  have hv := Lib.hid hv
  go_enter Try.func27, Try.ntmps27
  go_wp2_with fail
  refine (hv.out _ (below_alloc _ _)).mono ?_
  rintro e w' ⟨rfl, hb⟩
  go_wp2_with fail
  go_ret
  exact ⟨rfl, (below_alloc _ _).trans (hb.mono (below_alloc _ _).size)⟩

set_option maxHeartbeats 4000000 in
theorem valid_eigen (s : ByteArray) (n : Int) (l : List Tm) (a : Option Addr) (cap : Nat) (w : World) (hs : s.size ≤ maxLen) (hl : l.length ≤ cap) (hc : cap ≤ maxLen)
    (HC : Hid (∀ W : World, Below w.heap.size w W → Calls Try.prog 26 #[.slice a l.length cap, .func (.func 27) #[] #[]] W fun e w' => e = .returned (.bool (!Tm.validL l)) ∧ Below W.heap.size W w')) :
    Calls Try.prog 8 #[.agg #[.int .i64 1, .string s, .int .i64 n, .slice a l.length cap]] w fun e w' => e = .returned (.bool (Tm.mk 1 s n l).valid) ∧ Below w.heap.size w w' := by
  have hsz : (s.size = 0) ↔ s.toList = [] := by rw [toListE, ← size_toList]; exact List.length_eq_zero_iff
  have hse : (s.size == 0) = s.toList.isEmpty := by rw [Bool.eq_iff_iff]; simp [hsz]
  have hle : l.isEmpty = decide (l.length = 0) := by cases l <;> simp
  have hv := Lib.hid (show (Tm.mk 1 s n l).valid = (decide (1 ≤ n) && s.toList.isEmpty && decide (l.length = 0) && Tm.validL l) by
    rw [Tm.valid_mk, Bool.eq_iff_iff]; simp [Tm.ok1, *]; try grind)
  unfold maxLen at hs hc
  clear hsz hse hle
  go_enter Try.func8, Try.ntmps8
  go_wp2_with fail
  all_goals first
    | (have hl0 : l = [] := by assumption
       subst hl0
       refine (HC.out _ (below_alloc _ _)).mono ?_
       rintro e w' ⟨rfl, hb⟩
       go_wp2_with fail
       go_ret
       exact ⟨ret_bool (by rw [hv.out]; simp [*]; try (intros; omega)), (below_alloc _ _).trans (hb.mono (below_alloc _ _).size)⟩)
    | (refine (HC.out _ (below_alloc _ _)).mono ?_
       rintro e w' ⟨rfl, hb⟩
       go_wp2_with fail
       go_ret
       exact ⟨ret_bool (by rw [hv.out]; simp [*]; try (intros; omega)), (below_alloc _ _).trans (hb.mono (below_alloc _ _).size)⟩)
    | (go_ret
       exact ⟨ret_bool (by rw [hv.out]; simp [*]; try (intros; omega)), below_alloc _ _⟩)

set_option maxHeartbeats 4000000 in
theorem valid_int (s : ByteArray) (n : Int) (l : List Tm) (a : Option Addr) (cap : Nat) (w : World) (hs : s.size ≤ maxLen) (hl : l.length ≤ cap) (hc : cap ≤ maxLen)
    (HC : Hid (∀ W : World, Below w.heap.size w W → Calls Try.prog 26 #[.slice a l.length cap, .func (.func 27) #[] #[]] W fun e w' => e = .returned (.bool (!Tm.validL l)) ∧ Below W.heap.size W w')) :
    Calls Try.prog 8 #[.agg #[.int .i64 2, .string s, .int .i64 n, .slice a l.length cap]] w fun e w' => e = .returned (.bool (Tm.mk 2 s n l).valid) ∧ Below w.heap.size w w' := by
  have hsz : (s.size = 0) ↔ s.toList = [] := by rw [toListE, ← size_toList]; exact List.length_eq_zero_iff
  have hse : (s.size == 0) = s.toList.isEmpty := by rw [Bool.eq_iff_iff]; simp [hsz]
  have hle : l.isEmpty = decide (l.length = 0) := by cases l <;> simp
  have hv := Lib.hid (show (Tm.mk 2 s n l).valid = (true && s.toList.isEmpty && decide (l.length = 0) && Tm.validL l) by
    rw [Tm.valid_mk, Bool.eq_iff_iff]; simp [Tm.ok1, *]; try grind)
  unfold maxLen at hs hc
  clear hsz hse hle
  go_enter Try.func8, Try.ntmps8
  go_wp2_with fail
  all_goals first
    | (have hl0 : l = [] := by assumption
       subst hl0
       refine (HC.out _ (below_alloc _ _)).mono ?_
       rintro e w' ⟨rfl, hb⟩
       go_wp2_with fail
       go_ret
       exact ⟨ret_bool (by rw [hv.out]; simp [*]; try (intros; omega)), (below_alloc _ _).trans (hb.mono (below_alloc _ _).size)⟩)
    | (refine (HC.out _ (below_alloc _ _)).mono ?_
       rintro e w' ⟨rfl, hb⟩
       go_wp2_with fail
       go_ret
       exact ⟨ret_bool (by rw [hv.out]; simp [*]; try (intros; omega)), (below_alloc _ _).trans (hb.mono (below_alloc _ _).size)⟩)
    | (go_ret
       exact ⟨ret_bool (by rw [hv.out]; simp [*]; try (intros; omega)), below_alloc _ _⟩)

set_option maxHeartbeats 4000000 in
theorem valid_bound (s : ByteArray) (n : Int) (l : List Tm) (a : Option Addr) (cap : Nat) (w : World) (hs : s.size ≤ maxLen) (hl : l.length ≤ cap) (hc : cap ≤ maxLen)
    (HC : Hid (∀ W : World, Below w.heap.size w W → Calls Try.prog 26 #[.slice a l.length cap, .func (.func 27) #[] #[]] W fun e w' => e = .returned (.bool (!Tm.validL l)) ∧ Below W.heap.size W w')) :
    Calls Try.prog 8 #[.agg #[.int .i64 3, .string s, .int .i64 n, .slice a l.length cap]] w fun e w' => e = .returned (.bool (Tm.mk 3 s n l).valid) ∧ Below w.heap.size w w' := by
  have hsz : (s.size = 0) ↔ s.toList = [] := by rw [toListE, ← size_toList]; exact List.length_eq_zero_iff
  have hse : (s.size == 0) = s.toList.isEmpty := by rw [Bool.eq_iff_iff]; simp [hsz]
  have hle : l.isEmpty = decide (l.length = 0) := by cases l <;> simp
  have hv := Lib.hid (show (Tm.mk 3 s n l).valid = (decide (0 ≤ n ∧ n ≤ Tm.far) && s.toList.isEmpty && decide (l.length = 0) && Tm.validL l) by
    rw [Tm.valid_mk, Bool.eq_iff_iff]; simp [Tm.ok1, *]; try grind)
  unfold maxLen at hs hc
  clear hsz hse hle
  have hfar := Lib.hid (show Tm.far = 4611686018427387904 from rfl)
  go_enter Try.func8, Try.ntmps8
  go_wp2_with fail
  all_goals first
    | (have hl0 : l = [] := by assumption
       subst hl0
       refine (HC.out _ (below_alloc _ _)).mono ?_
       rintro e w' ⟨rfl, hb⟩
       go_wp2_with fail
       go_ret
       exact ⟨ret_bool (by rw [hv.out, hfar.out]; simp [*]; try (intros; omega)), (below_alloc _ _).trans (hb.mono (below_alloc _ _).size)⟩)
    | (refine (HC.out _ (below_alloc _ _)).mono ?_
       rintro e w' ⟨rfl, hb⟩
       go_wp2_with fail
       go_ret
       exact ⟨ret_bool (by rw [hv.out, hfar.out]; simp [*]; try (intros; omega)), (below_alloc _ _).trans (hb.mono (below_alloc _ _).size)⟩)
    | (go_ret
       exact ⟨ret_bool (by rw [hv.out, hfar.out]; simp [*]; try (intros; omega)), below_alloc _ _⟩)

set_option maxHeartbeats 4000000 in
theorem valid_var (s : ByteArray) (n : Int) (l : List Tm) (a : Option Addr) (cap : Nat) (w : World) (hs : s.size ≤ maxLen) (hl : l.length ≤ cap) (hc : cap ≤ maxLen)
    (HC : Hid (∀ W : World, Below w.heap.size w W → Calls Try.prog 26 #[.slice a l.length cap, .func (.func 27) #[] #[]] W fun e w' => e = .returned (.bool (!Tm.validL l)) ∧ Below W.heap.size W w')) :
    Calls Try.prog 8 #[.agg #[.int .i64 4, .string s, .int .i64 n, .slice a l.length cap]] w fun e w' => e = .returned (.bool (Tm.mk 4 s n l).valid) ∧ Below w.heap.size w w' := by
  have hsz : (s.size = 0) ↔ s.toList = [] := by rw [toListE, ← size_toList]; exact List.length_eq_zero_iff
  have hse : (s.size == 0) = s.toList.isEmpty := by rw [Bool.eq_iff_iff]; simp [hsz]
  have hle : l.isEmpty = decide (l.length = 0) := by cases l <;> simp
  have hv := Lib.hid (show (Tm.mk 4 s n l).valid = (decide (0 ≤ n ∧ n ≤ Tm.far) && s.toList.isEmpty && decide (l.length = 0) && Tm.validL l) by
    rw [Tm.valid_mk, Bool.eq_iff_iff]; simp [Tm.ok1, *]; try grind)
  unfold maxLen at hs hc
  clear hsz hse hle
  have hfar := Lib.hid (show Tm.far = 4611686018427387904 from rfl)
  go_enter Try.func8, Try.ntmps8
  go_wp2_with fail
  all_goals first
    | (have hl0 : l = [] := by assumption
       subst hl0
       refine (HC.out _ (below_alloc _ _)).mono ?_
       rintro e w' ⟨rfl, hb⟩
       go_wp2_with fail
       go_ret
       exact ⟨ret_bool (by rw [hv.out, hfar.out]; simp [*]; try (intros; omega)), (below_alloc _ _).trans (hb.mono (below_alloc _ _).size)⟩)
    | (refine (HC.out _ (below_alloc _ _)).mono ?_
       rintro e w' ⟨rfl, hb⟩
       go_wp2_with fail
       go_ret
       exact ⟨ret_bool (by rw [hv.out, hfar.out]; simp [*]; try (intros; omega)), (below_alloc _ _).trans (hb.mono (below_alloc _ _).size)⟩)
    | (go_ret
       exact ⟨ret_bool (by rw [hv.out, hfar.out]; simp [*]; try (intros; omega)), below_alloc _ _⟩)

set_option maxHeartbeats 4000000 in
theorem valid_lam (s : ByteArray) (n : Int) (l : List Tm) (a : Option Addr) (cap : Nat) (w : World) (hs : s.size ≤ maxLen) (hl : l.length ≤ cap) (hc : cap ≤ maxLen)
    (HC : Hid (∀ W : World, Below w.heap.size w W → Calls Try.prog 26 #[.slice a l.length cap, .func (.func 27) #[] #[]] W fun e w' => e = .returned (.bool (!Tm.validL l)) ∧ Below W.heap.size W w')) :
    Calls Try.prog 8 #[.agg #[.int .i64 5, .string s, .int .i64 n, .slice a l.length cap]] w fun e w' => e = .returned (.bool (Tm.mk 5 s n l).valid) ∧ Below w.heap.size w w' := by
  have hsz : (s.size = 0) ↔ s.toList = [] := by rw [toListE, ← size_toList]; exact List.length_eq_zero_iff
  have hse : (s.size == 0) = s.toList.isEmpty := by rw [Bool.eq_iff_iff]; simp [hsz]
  have hle : l.isEmpty = decide (l.length = 0) := by cases l <;> simp
  have hv := Lib.hid (show (Tm.mk 5 s n l).valid = ((n == 0) && s.toList.isEmpty && decide (l.length = 1) && Tm.validL l) by
    rw [Tm.valid_mk, Bool.eq_iff_iff]; simp [Tm.ok1, *]; try grind)
  unfold maxLen at hs hc
  clear hsz hse hle
  go_enter Try.func8, Try.ntmps8
  go_wp2_with fail
  all_goals first
    | (have hl0 : l = [] := by assumption
       subst hl0
       refine (HC.out _ (below_alloc _ _)).mono ?_
       rintro e w' ⟨rfl, hb⟩
       go_wp2_with fail
       go_ret
       exact ⟨ret_bool (by rw [hv.out]; simp [*]; try (intros; omega)), (below_alloc _ _).trans (hb.mono (below_alloc _ _).size)⟩)
    | (refine (HC.out _ (below_alloc _ _)).mono ?_
       rintro e w' ⟨rfl, hb⟩
       go_wp2_with fail
       go_ret
       exact ⟨ret_bool (by rw [hv.out]; simp [*]; try (intros; omega)), (below_alloc _ _).trans (hb.mono (below_alloc _ _).size)⟩)
    | (go_ret
       exact ⟨ret_bool (by rw [hv.out]; simp [*]; try (intros; omega)), below_alloc _ _⟩)

set_option maxHeartbeats 4000000 in
theorem valid_other (k : Int) (s : ByteArray) (n : Int) (l : List Tm) (h0 : k ≠ 0) (h1 : k ≠ 1) (h2 : k ≠ 2) (h3 : k ≠ 3) (h4 : k ≠ 4) (h5 : k ≠ 5) (h6 : k ≠ 6) (a : Option Addr) (cap : Nat) (w : World) (hs : s.size ≤ maxLen) (hl : l.length ≤ cap) (hc : cap ≤ maxLen)
    (HC : Hid (∀ W : World, Below w.heap.size w W → Calls Try.prog 26 #[.slice a l.length cap, .func (.func 27) #[] #[]] W fun e w' => e = .returned (.bool (!Tm.validL l)) ∧ Below W.heap.size W w')) :
    Calls Try.prog 8 #[.agg #[.int .i64 k, .string s, .int .i64 n, .slice a l.length cap]] w fun e w' => e = .returned (.bool (Tm.mk k s n l).valid) ∧ Below w.heap.size w w' := by
  have hv := Lib.hid (show (Tm.mk k s n l).valid = false by rw [Tm.valid_mk]; simp [Tm.ok1, *])
  have b0 : (k == 0) = false := beq_eq_false_iff_ne.2 h0
  have b1 : (k == 1) = false := beq_eq_false_iff_ne.2 h1
  have b2 : (k == 2) = false := beq_eq_false_iff_ne.2 h2
  have b3 : (k == 3) = false := beq_eq_false_iff_ne.2 h3
  have b4 : (k == 4) = false := beq_eq_false_iff_ne.2 h4
  have b5 : (k == 5) = false := beq_eq_false_iff_ne.2 h5
  have b6 : (k == 6) = false := beq_eq_false_iff_ne.2 h6
  unfold maxLen at hs hc
  go_enter Try.func8, Try.ntmps8
  go_wp2_with fail
  go_ret
  exact ⟨ret_bool (by rw [hv.out]), below_alloc _ _⟩


set_option maxHeartbeats 4000000 in
theorem valid_const (s : ByteArray) (n : Int) (l : List Tm) (a : Option Addr) (cap : Nat) (w : World) (hs : s.size ≤ maxLen) (hl : l.length ≤ cap) (hc : cap ≤ maxLen) :
    Calls Try.prog 8 #[.agg #[.int .i64 0, .string s, .int .i64 n, .slice a l.length cap]] w fun e w' => e = .returned (.bool (Tm.mk 0 s n l).valid) ∧ Below w.heap.size w w' := by
  have hv := Lib.hid (show (Tm.mk 0 s n l).valid = ((isName s || isSym s) && (n == 0) && decide (l.length = 0)) by
    rw [Tm.valid_mk]; simp only [Tm.ok1, if_true]; cases l <;> simp)
  have h1 := Lib.hid (lex_IsName s hs)
  have h2 := Lib.hid (lex_IsSym s hs)
  unfold maxLen at hs hc
  cases hn : isName s with
  | true =>
    have HN := Lib.hid hn; clear hn
    go_enter Try.func8, Try.ntmps8
    go_wp2_with fail
    refine (h1.out _).mono ?_
    rw [HN.out]
    rintro e w' ⟨rfl, rfl⟩
    go_wp2_with fail
    all_goals
      go_ret
      exact ⟨ret_bool (by rw [hv.out, HN.out]; simp [*]), below_alloc _ _⟩
  | false =>
    have HN := Lib.hid hn; clear hn
    cases hy : isSym s with
    | true =>
      have HY := Lib.hid hy; clear hy
      go_enter Try.func8, Try.ntmps8
      go_wp2_with fail
      refine (h1.out _).mono ?_
      rw [HN.out]
      rintro e w' ⟨rfl, rfl⟩
      go_wp2_with fail
      refine (h2.out _).mono ?_
      rw [HY.out]
      rintro e w' ⟨rfl, rfl⟩
      go_wp2_with fail
      all_goals
        go_ret
        exact ⟨ret_bool (by rw [hv.out, HN.out, HY.out]; simp [*]), below_alloc _ _⟩
    | false =>
      have HY := Lib.hid hy; clear hy
      go_enter Try.func8, Try.ntmps8
      go_wp2_with fail
      refine (h1.out _).mono ?_
      rw [HN.out]
      rintro e w' ⟨rfl, rfl⟩
      go_wp2_with fail
      refine (h2.out _).mono ?_
      rw [HY.out]
      rintro e w' ⟨rfl, rfl⟩
      go_wp2_with fail
      all_goals
        go_ret
        exact ⟨ret_bool (by rw [hv.out, HN.out, HY.out]; simp), below_alloc _ _⟩

set_option maxHeartbeats 4000000 in
theorem valid_app (s : ByteArray) (n : Int) (l : List Tm) (a : Option Addr) (cap : Nat) (w : World) (hs : s.size ≤ maxLen) (hl : l.length ≤ cap) (hc : cap ≤ maxLen)
    (hcell : 2 ≤ l.length → ∃ b o, a = some ⟨b, o, none⟩ ∧ b < w.heap.size ∧ w.cell? ⟨b, o, none⟩ = some (.int .i64 (l.getD 0 Tm.zero).k))
    (HC : Hid (∀ W : World, Below w.heap.size w W → Calls Try.prog 26 #[.slice a l.length cap, .func (.func 27) #[] #[]] W fun e w' => e = .returned (.bool (!Tm.validL l)) ∧ Below W.heap.size W w')) :
    Calls Try.prog 8 #[.agg #[.int .i64 6, .string s, .int .i64 n, .slice a l.length cap]] w fun e w' => e = .returned (.bool (Tm.mk 6 s n l).valid) ∧ Below w.heap.size w w' := by
  have hsz : (s.size = 0) ↔ s.toList = [] := by rw [toListE, ← size_toList]; exact List.length_eq_zero_iff
  have hse : (s.size == 0) = s.toList.isEmpty := by rw [Bool.eq_iff_iff]; simp [hsz]
  have hv := Lib.hid (show (Tm.mk 6 s n l).valid = (s.toList.isEmpty && ((n == 0) && decide (2 ≤ l.length) && ((l.getD 0 Tm.zero).k != 6)) && Tm.validL l) by
    rw [Tm.valid_mk, Tm.ok1, if_neg (by decide), if_neg (by decide), if_neg (by decide), if_neg (by decide), if_neg (by decide), if_pos rfl, hse])
  unfold maxLen at hs hc
  clear hsz hse
  by_cases h2 : 2 ≤ l.length
  · obtain ⟨b, o, rfl, hb, h0⟩ := hcell h2
    generalize hk : (l.getD 0 Tm.zero).k = k0 at hv h0
    clear hk hcell
    have h2' : 2 ≤ (l.length : Int) := by omega
    have hlp : (0 : Int) < (l.length : Int) := by omega
    by_cases hn : n = 0
    · subst hn
      have hn0 : ((0 : Int) == 0) = true := rfl
      go_enter Try.func8, Try.ntmps8
      go_wp2_with fail
      go_quiet (fail)
      go_wp2_with fail
      all_goals first
        | (refine (HC.out _ (below_alloc_drewN _ _ _)).mono ?_
           rintro e w' ⟨rfl, hb⟩
           go_wp2_with fail
           go_ret
           exact ⟨ret_bool (by rw [hv.out]; simp [*]; try grind), (below_alloc_drewN _ _ _).trans (hb.mono (below_alloc_drewN _ _ _).size)⟩)
        | (go_ret
           exact ⟨ret_bool (by rw [hv.out]; simp [*]; try grind), below_alloc_drewN _ _ _⟩)
    · have hn0 : (n == 0) = false := by simpa using hn
      have HN := Lib.hid hn; clear hn
      go_enter Try.func8, Try.ntmps8
      go_wp2_with fail
      go_quiet (fail)
      go_wp2_with fail
      all_goals
        go_ret
        exact ⟨ret_bool (by rw [hv.out]; have := HN.out; simp [*]), below_alloc_drewN _ _ _⟩
  · have h2' : decide (2 ≤ (l.length : Int)) = false := by rw [decide_eq_false_iff_not]; omega
    clear hcell
    have H2 := Lib.hid h2; clear h2
    cases hn0 : (n == 0) with
    | true =>
      go_enter Try.func8, Try.ntmps8
      go_wp2_with fail
      go_quiet (fail)
      go_wp2_with fail
      all_goals
        go_ret
        exact ⟨ret_bool (by rw [hv.out]; have := H2.out; simp; omega), below_alloc_drewN _ _ _⟩
    | false =>
      go_enter Try.func8, Try.ntmps8
      go_wp2_with fail
      go_quiet (fail)
      go_wp2_with fail
      all_goals
        go_ret
        exact ⟨ret_bool (by rw [hv.out]; have := H2.out; simp; omega), below_alloc_drewN _ _ _⟩

/-- term.Valid. -/
theorem term_Valid (t : Tm) : ∀ (cs : List Value) (H : GH) (w : World), Rep H t cs → Agree H w →
    Calls Try.prog 8 #[.agg cs.toArray] w fun e w' => e = .returned (.bool t.valid) ∧ Below w.heap.size w w' := by
  induction t using Tm.ind with
  | h k s n l ih =>
    intro cs H w hR hA
    cases hR with
    | mk _ _ _ _ a cap C hk hn hs hl hc hr hx =>
      have hT : Tms H (.slice a l.length cap) l := ⟨a, cap, C, rfl, hl, hc, hr, hx⟩
      have HC : Hid (∀ W : World, Below w.heap.size w W → Calls Try.prog 26 #[.slice a l.length cap, .func (.func 27) #[] #[]] W fun e w' => e = .returned (.bool (!Tm.validL l)) ∧ Below W.heap.size W w') := by
        intro W hW
        have hAW := hA.below hW
        have := containsFunc 27 #[] (by intro args w; go_simp) (fun t => !t.valid) H W (.slice a l.length cap) l hT hAW (fun t ht cs' w' hw' hR' =>
          term_Valid1 t cs' H w' hR' (hAW.below hw') (fun W' hW' => ih t ht cs' H W' hR' ((hAW.below hw').below hW')))
        rw [any_not_valid] at this
        exact this
      by_cases h0 : k = 0
      · subst h0; exact valid_const s n l a cap w hs hl hc
      by_cases h1 : k = 1
      · subst h1; exact valid_eigen s n l a cap w hs hl hc HC
      by_cases h2 : k = 2
      · subst h2; exact valid_int s n l a cap w hs hl hc HC
      by_cases h3 : k = 3
      · subst h3; exact valid_bound s n l a cap w hs hl hc HC
      by_cases h4 : k = 4
      · subst h4; exact valid_var s n l a cap w hs hl hc HC
      by_cases h5 : k = 5
      · subst h5; exact valid_lam s n l a cap w hs hl hc HC
      by_cases h6 : k = 6
      · subst h6
        refine valid_app s n l a cap w hs hl hc (fun h => ?_) HC
        have hx0 : l[0]? = some l[0] := List.getElem?_eq_getElem (by omega)
        obtain ⟨b, o, cs', ha, hlen, hR0, hcell⟩ := hT.get hx0
        obtain ⟨a1, cap1, rfl, -⟩ := hR0.open_
        have c0 := hA.cell (hcell 0 _ rfl)
        have hg : l.getD 0 Tm.zero = l[0] := by rw [List.getD_eq_getElem?_getD, hx0]; rfl
        refine ⟨b, o, ha, World.block_lt_of_cell? w _ c0, ?_⟩
        rw [hg]
        simpa using c0
      exact valid_other k s n l h0 h1 h2 h3 h4 h5 h6 a cap w hs hl hc HC
end Go.Proofs.Ytbdappbmlnpogaa
