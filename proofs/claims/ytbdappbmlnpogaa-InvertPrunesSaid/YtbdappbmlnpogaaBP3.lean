/- Package lex (and the reference's): names and symbols: what the calls return is isName, isSym. The library's functions on slices of terms: IndexFunc, ContainsFunc, Grow, Concat, Clone. term.Valid. -/
import Derived.Test.YtbdappbmlnpogaaBP2
import Derived.Test.YtbdappbmlnpogaaChecked
import Derived.Lib.Bytealg
namespace Go.Proofs.Ytbdappbmlnpogaa
open Go Go.Proofs Go.RowKit
set_option maxRecDepth 100000

def idx {α : Type} (p : α → Bool) : List α → Int → Int | [], _ => -1 | x :: xs, i => if p x then i else idx p xs (i + 1)
theorem idx_hit {α : Type} (p : α → Bool) (l : List α) : ∀ (k : Nat) (i : Int) (x : α), l[k]? = some x → p x = true → (∀ (j : Nat) (y : α), j < k → l[j]? = some y → p y = false) → idx p l i = i + k := by
  induction l with
  | nil => intro k i x h; simp at h
  | cons y ys ih =>
    intro k i x hx hp hn
    cases k with
    | zero => simp at hx; subst hx; simp [idx, hp]
    | succ k =>
      have h0 := hn 0 y (by omega) (by simp)
      rw [idx, if_neg (by simp [h0]), ih k (i + 1) x (by simpa using hx) hp (fun j z hj hz => hn (j + 1) z (by omega) (by simpa using hz))]
      omega
theorem idx_miss {α : Type} (p : α → Bool) (l : List α) : ∀ (i : Int), (∀ (j : Nat) (y : α), l[j]? = some y → p y = false) → idx p l i = -1 := by
  induction l with
  | nil => intro i h; rfl
  | cons y ys ih =>
    intro i hn
    have h0 := hn 0 y (by simp)
    rw [idx, if_neg (by simp [h0]), ih (i + 1) (fun j z hz => hn (j + 1) z (by simpa using hz))]
theorem idx_neg {α : Type} (p : α → Bool) (l : List α) : ∀ (i : Int), 0 ≤ i → (idx p l i < 0 ↔ l.any p = false) ∧ -1 ≤ idx p l i := by
  induction l with
  | nil => intro i hi; simp [idx]
  | cons y ys ih =>
    intro i hi
    rw [idx]
    cases hp : p y with
    | true => simp [hp]; omega
    | false => simpa [hp] using ih (i + 1) (by omega)
theorem idx_any {α : Type} (p : α → Bool) (l : List α) : decide (0 ≤ idx p l 0) = l.any p := by
  have h := idx_neg p l 0 (by omega)
  cases ha : l.any p with
  | true =>
    have : ¬ idx p l 0 < 0 := fun h' => by rw [h.1.1 h'] at ha; cases ha
    simpa using this
  | false => have := h.1.2 ha; simpa using this

/-- What a predicate on a byte comes to. -/
def BytePred (g : FuncId) (p : UInt8 → Bool) : Prop := ∀ (c : UInt8) (w : World), Calls Try.prog g #[.int .u8 c.toNat] w fun e w' => e = .returned (.bool (p c)) ∧ w' = w

theorem byte_lt (c : UInt8) : (c.toNat : Int) < 256 := by have := c.toNat_lt; omega
theorem ret_bool {a b : Bool} (h : a = true ↔ b = true) : Ending.returned (.bool a) = .returned (.bool b) := by rw [Bool.eq_iff_iff.2 h]
theorem lex_small : BytePred 49 smallB := fun c w => by
  have hc := byte_lt c
  go_enter Try.func49, Try.ntmps49
  go_wp2
  all_goals (go_ret; refine ⟨ret_bool ?_, rfl⟩; simp [smallB]; try omega)
theorem lex_great : BytePred 70 greatB := fun c w => by
  have hc := byte_lt c
  go_enter Try.func70, Try.ntmps70
  go_wp2
  all_goals (go_ret; refine ⟨ret_bool ?_, rfl⟩; simp [greatB, *]; try omega)
theorem lex_digit : BytePred 71 digitB := fun c w => by
  have hc := byte_lt c
  go_enter Try.func71, Try.ntmps71
  go_wp2
  all_goals (go_ret; refine ⟨ret_bool ?_, rfl⟩; simp [digitB]; try omega)
theorem lex_inside : BytePred 51 insideB := fun c w => by
  have hc := byte_lt c
  cases h1 : smallB c <;> cases h2 : greatB c <;> cases h3 : digitB c
  all_goals
    have s1 := lex_small c; rw [h1] at s1
    have s2 := lex_great c; rw [h2] at s2
    have s3 := lex_digit c; rw [h3] at s3
    go_enter Try.func51, Try.ntmps51
    have H1 := Lib.hid h1; have H2 := Lib.hid h2; have H3 := Lib.hid h3
    clear h1 h2 h3
    go_wp2_with (first
      | (go_at_call 49; refine (s1 _).mono ?_; rintro e w' ⟨rfl, rfl⟩)
      | (go_at_call 70; refine (s2 _).mono ?_; rintro e w' ⟨rfl, rfl⟩)
      | (go_at_call 71; refine (s3 _).mono ?_; rintro e w' ⟨rfl, rfl⟩))
    all_goals (go_ret; refine ⟨ret_bool ?_, rfl⟩; simp [insideB, H1.out, H2.out, H3.out]; try omega)
theorem stringslite_IndexByte (s : ByteArray) (c : UInt8) (w : World) :
    Calls Try.prog 82 #[.string s, .int .u8 c.toNat] w fun e w' => e = .returned (.int .i64 (Lib.indexByte s.data.toList c)) ∧ w' = w := by
  have hc := Lib.hid (show (c.toNat : Int).toNat.toUInt8 = c by simp)
  go_enter Try.func82, Try.ntmps82
  go_wp2
  rw [run_callFunc_extern Try.func91 (by kernel_rfl) (by kernel_rfl) (by kernel_rfl) (e := Extern.BytealgIndexByte.indexByte) (by kernel_rfl), Lib.run_indexByteString]
  simp only [Result.andThen]
  rw [Oper.upon_value]
  go_wp2
  go_ret
  exact ⟨by rw [← hc.out]; simp, rfl⟩
theorem strings_IndexByte (s : ByteArray) (c : UInt8) (w : World) :
    Calls Try.prog 72 #[.string s, .int .u8 c.toNat] w fun e w' => e = .returned (.int .i64 (Lib.indexByte s.data.toList c)) ∧ w' = w := by
  go_enter Try.func72, Try.ntmps72
  go_wp2_with (go_at_call 82; refine (stringslite_IndexByte _ _ _).mono ?_; rintro e w' ⟨rfl, rfl⟩)
  go_ret
  exact ⟨rfl, rfl⟩
theorem indexByte_iff (l : List UInt8) (c : UInt8) : 0 ≤ Lib.indexByte l c ↔ l.contains c = true := by
  induction l with
  | nil => simp [Lib.indexByte]
  | cons b l ih =>
    have hg := Lib.indexByte_ge l c
    rw [Lib.indexByte]
    by_cases hb : (b == c) = true
    · have : b = c := by simpa using hb
      subst this
      simp
    · rw [if_neg hb]
      have hb' : ¬ c = b := fun e => hb (by rw [e]; simp)
      split
      · rename_i h1
        have h1' : Lib.indexByte l c = -1 := by simpa using h1
        rw [h1'] at ih
        simp only [List.contains_cons, Bool.or_eq_true, ← ih]
        simp [hb']
      · rename_i h1
        have h1' : Lib.indexByte l c ≠ -1 := by simpa using h1
        simp only [List.contains_cons, Bool.or_eq_true, ← ih]
        simp [hb']
        omega
theorem lex_sign : BytePred 52 signB := fun c w => by
  have hi := Lib.hid (strings_IndexByte ⟨signL.toArray⟩ c w)
  have hii := Lib.hid (indexByte_iff signL c)
  go_enter Try.func52, Try.ntmps52
  go_wp2_with fail
  refine hi.out.mono ?_
  rintro e w' ⟨rfl, rfl⟩
  go_wp2_with fail
  go_ret
  refine ⟨ret_bool ?_, rfl⟩
  simpa [signB] using hii.out
/-- How many bytes a text begins with that are such. -/
def runLen (p : UInt8 → Bool) (l : List UInt8) : Nat := (l.takeWhile p).length
theorem runLen_stop (p : UInt8 → Bool) (l : List UInt8) : ∀ (k : Nat) (c : UInt8), l[k]? = some c → p c = false → (∀ (j : Nat) (y : UInt8), j < k → l[j]? = some y → p y = true) → runLen p l = k := by
  unfold runLen
  induction l with
  | nil => intro k c h; simp at h
  | cons b l ih =>
    intro k c hk hp hn
    cases k with
    | zero => simp at hk; subst hk; simp [hp]
    | succ k =>
      have h0 := hn 0 b (by omega) (by simp)
      simp only [List.takeWhile_cons, h0, if_true, List.length_cons]
      rw [ih k c (by simpa using hk) hp (fun j z hj hz => hn (j + 1) z (by omega) (by simpa using hz))]
theorem runLen_all (p : UInt8 → Bool) (l : List UInt8) (hn : ∀ (j : Nat) (y : UInt8), l[j]? = some y → p y = true) : runLen p l = l.length := by
  unfold runLen
  induction l with
  | nil => rfl
  | cons b l ih =>
    have h0 := hn 0 b (by simp)
    simp only [List.takeWhile_cons, h0, if_true, List.length_cons]
    rw [ih (fun j z hz => hn (j + 1) z (by simpa using hz))]
theorem runLen_iff (p : UInt8 → Bool) (l : List UInt8) : runLen p l = l.length ↔ l.all p = true := by
  unfold runLen
  induction l with
  | nil => simp
  | cons b l ih =>
    by_cases hb : p b = true
    · simp only [List.takeWhile_cons, hb, if_true, List.length_cons, List.all_cons, Bool.true_and]
      rw [← ih]; omega
    · simp [hb]
theorem lex_run (g : FuncId) (p : UInt8 → Bool) (hg : BytePred g p) (eg : ∀ args w, (callFunc g args).run Try.prog w = .ok (.enter g args) w) (s : ByteArray) (hs : s.size ≤ maxLen) (w : World) :
    Calls Try.prog 50 #[.string s, .func (.func g) #[] #[]] w fun e w' => e = .returned (.int .i64 (runLen p s.data.toList)) ∧ w' = w := by
  unfold maxLen at hs
  go_enter Try.func50, Try.ntmps50
  go_wp2
  go_loop [8] (fun i => ∃ k : Nat, k ≤ s.size ∧ i = .int .i64 k ∧ Hid (∀ (j : Nat) (y : UInt8), j < k → s.data.toList[j]? = some y → p y = true)) (fun i => s.size - (intOf i).toNat)
  case atStart => exact ⟨0, Nat.zero_le _, rfl, fun j y hj => absurd hj (by omega)⟩
  case round =>
    obtain ⟨k, hk, rfl, hn⟩ := hrel
    by_cases hlt : k < s.size
    · have hx : s.data.toList[k]? = some s[k] := List.getElem?_eq_getElem hlt
      have hcall := Lib.hid (hg s[k])
      have HX := Lib.hid hx
      clear hx
      cases hq : p s[k] with
      | true =>
        have Hq := Lib.hid hq
        clear hq
        go_wp2_with fail
        refine (hcall.out _).mono ?_
        rw [Hq.out]
        rintro e w' ⟨rfl, rfl⟩
        go_wp2_with fail
        go_round
        case rel =>
          refine ⟨k + 1, by omega, by go_num, fun j y hj hy => ?_⟩
          by_cases e : j = k
          · subst e
            rw [HX.out] at hy
            injection hy with hy
            subst hy
            exact Hq.out
          · exact hn.out j y (by omega) hy
        case measure => simp [intOf]; omega
      | false =>
        have Hq := Lib.hid hq
        clear hq
        go_wp2_with fail
        refine (hcall.out _).mono ?_
        rw [Hq.out]
        rintro e w' ⟨rfl, rfl⟩
        go_wp2_with fail
        go_ret
        refine ⟨?_, rfl⟩
        rw [runLen_stop p _ k _ HX.out Hq.out hn.out]
        rfl
    · go_wp2
      go_ret
      refine ⟨?_, rfl⟩
      rw [runLen_all p _ (fun j y hy => hn.out j y (by have := (List.getElem?_eq_some_iff.1 hy).1; have h2 : s.data.toList.length = s.size := (by simp); omega) hy)]
      simp
theorem size_toList (s : ByteArray) : s.data.toList.length = s.size := by simp
theorem toListE (s : ByteArray) : s.toList = s.data.toList := ByteArray.toList_eq s
theorem fitsB_iff (s : ByteArray) : fitsB s = true ↔ 0 < s.size ∧ s.size ≤ 32 := by
  unfold fitsB
  rw [Bool.and_eq_true, decide_eq_true_iff, decide_eq_true_iff]
  omega
theorem lex_fits (s : ByteArray) (hs : s.size ≤ maxLen) (w : World) : Calls Try.prog 48 #[.string s] w fun e w' => e = .returned (.bool (fitsB s)) ∧ w' = w := by
  unfold maxLen at hs
  have hz := size_toList s
  by_cases h0 : s.size = 0
  · have hl : s.toList = [] := by rw [toListE]; exact List.eq_nil_of_length_eq_zero (by rw [hz]; exact h0)
    have hf : fitsB s = false := by simp [fitsB, h0]
    have HF := Lib.hid hf
    clear hz h0 hf
    go_enter Try.func48, Try.ntmps48
    go_wp2_with fail
    all_goals (go_ret; refine ⟨ret_bool ?_, rfl⟩; rw [HF.out]; try simp [*])
  · have hl : ¬ s.toList = [] := fun e => h0 (by rw [← hz, ← toListE, e]; rfl)
    have hl2 : (!s.toList.isEmpty) = true := by simpa using hl
    have hf : fitsB s = decide ((s.size : Int) ≤ 32) := by
      have h32 : ((s.size : Int) ≤ 32) ↔ s.size ≤ 32 := by omega
      rw [Bool.eq_iff_iff, decide_eq_true_iff, h32, fitsB_iff]; omega
    have HF := Lib.hid hf
    clear hz h0 hf
    go_enter Try.func48, Try.ntmps48
    go_wp2_with fail
    all_goals (go_ret; refine ⟨?_, rfl⟩; rw [HF.out]; try simp [*])
theorem lex_IsName (s : ByteArray) (hs : s.size ≤ maxLen) (w : World) : Calls Try.prog 24 #[.string s] w fun e w' => e = .returned (.bool (isName s)) ∧ w' = w := by
  have h1 := Lib.hid (lex_fits s hs)
  have h3 := Lib.hid (lex_run 51 insideB lex_inside (by intro args w; go_simp) s hs)
  unfold maxLen at hs
  have hrl := Lib.hid (runLen_iff insideB s.data.toList)
  cases hf : fitsB s with
  | false =>
    have HF := Lib.hid hf; clear hf
    go_enter Try.func24, Try.ntmps24
    go_wp2_with fail
    refine (h1.out _).mono ?_
    rw [HF.out]
    rintro e w' ⟨rfl, rfl⟩
    go_wp2_with fail
    go_ret
    exact ⟨by simp [isName, HF.out], rfl⟩
  | true =>
    have hpos := (fitsB_iff s).1 hf
    obtain ⟨hp0, hp1⟩ := hpos
    have hg : s.data.toList.getD 0 0 = s[0] := by
      have hx : s.data.toList[0]? = some s[0] := List.getElem?_eq_getElem hp0
      rw [List.getD_eq_getElem?_getD, hx]; rfl
    have HG := Lib.hid hg; clear hg
    have h2 := Lib.hid (lex_small s[0])
    have HF := Lib.hid hf; clear hf
    cases hq : smallB s[0] with
    | false =>
      have HQ := Lib.hid hq; clear hq
      go_enter Try.func24, Try.ntmps24
      go_wp2_with fail
      refine (h1.out _).mono ?_
      rw [HF.out]
      rintro e w' ⟨rfl, rfl⟩
      go_wp2_with fail
      refine (h2.out _).mono ?_
      rw [HQ.out]
      rintro e w' ⟨rfl, rfl⟩
      go_wp2_with fail
      go_ret
      exact ⟨by simp only [isName, HG.out, HQ.out]; simp, rfl⟩
    | true =>
      have HQ := Lib.hid hq; clear hq
      go_enter Try.func24, Try.ntmps24
      go_wp2_with fail
      refine (h1.out _).mono ?_
      rw [HF.out]
      rintro e w' ⟨rfl, rfl⟩
      go_wp2_with fail
      refine (h2.out _).mono ?_
      rw [HQ.out]
      rintro e w' ⟨rfl, rfl⟩
      go_wp2_with fail
      refine (h3.out _).mono ?_
      rintro e w' ⟨rfl, rfl⟩
      go_wp2_with fail
      go_ret
      refine ⟨ret_bool ?_, rfl⟩
      simp only [isName, HG.out, HQ.out, HF.out, Bool.true_and, ← hrl.out, size_toList]
      simp
      try omega
def b0 (u : ByteArray) : UInt8 := u.data.toList.getD 0 0
theorem stringslite_Index_one (s u : ByteArray) (hu : u.size = 1) (hne : (u.toList == s.toList) = false) (w : World) :
    Calls Try.prog 83 #[.string s, .string u] w fun e w' => e = .returned (.int .i64 (Lib.indexByte s.data.toList (b0 u))) ∧ w' = w := by
  have h0 : 0 < u.size := by omega
  have hg : b0 u = u[0] := by
    unfold b0
    have hx : u.data.toList[0]? = some u[0] := List.getElem?_eq_getElem h0
    rw [List.getD_eq_getElem?_getD, hx]; rfl
  rw [hg]
  have h1 := Lib.hid (stringslite_IndexByte s u[0])
  have hb1 : ((u.size : Int) == 0) = false := by rw [beq_eq_false_iff_ne]; omega
  have hb2 : ((u.size : Int) == 1) = true := by rw [beq_iff_eq]; omega
  clear hg hu
  go_enter Try.func83, Try.ntmps83
  go_wp2_with fail
  refine (h1.out _).mono ?_
  rintro e w' ⟨rfl, rfl⟩
  go_wp2_with fail
  go_ret
  exact ⟨rfl, rfl⟩
theorem strings_Index_one (s u : ByteArray) (hu : u.size = 1) (hne : (u.toList == s.toList) = false) (w : World) :
    Calls Try.prog 73 #[.string s, .string u] w fun e w' => e = .returned (.int .i64 (Lib.indexByte s.data.toList (b0 u))) ∧ w' = w := by
  have h1 := Lib.hid (stringslite_Index_one s u hu hne)
  clear hu hne
  go_enter Try.func73, Try.ntmps73
  go_wp2_with fail
  refine (h1.out _).mono ?_
  rintro e w' ⟨rfl, rfl⟩
  go_wp2_with fail
  go_ret
  exact ⟨rfl, rfl⟩
theorem strings_Contains_one (s u : ByteArray) (hu : u.size = 1) (hne : (u.toList == s.toList) = false) (w : World) :
    Calls Try.prog 53 #[.string s, .string u] w fun e w' => e = .returned (.bool (decide (0 ≤ Lib.indexByte s.data.toList (b0 u)))) ∧ w' = w := by
  have h1 := Lib.hid (strings_Index_one s u hu hne)
  clear hu hne
  go_enter Try.func53, Try.ntmps53
  go_wp2_with fail
  refine (h1.out _).mono ?_
  rintro e w' ⟨rfl, rfl⟩
  go_wp2_with fail
  go_ret
  exact ⟨rfl, rfl⟩
theorem single_iff (l : List UInt8) (h : l.length = 1) : (0 ≤ Lib.indexByte [44, 59, 33] (l.getD 0 0)) ↔ (l == [44] || l == [59] || l == [33]) = true := by
  match l, h with
  | [c], _ =>
    rw [indexByte_iff]
    show List.contains [44, 59, 33] c = true ↔ _
    simp only [List.contains_cons, List.contains_nil, Bool.or_eq_true, Bool.or_false, beq_iff_eq, List.cons.injEq, and_true, or_assoc]
theorem lex_IsSym (s : ByteArray) (hs : s.size ≤ maxLen) (w : World) : Calls Try.prog 25 #[.string s] w fun e w' => e = .returned (.bool (isSym s)) ∧ w' = w := by
  have h1 := Lib.hid (lex_fits s hs)
  have h3 := Lib.hid (lex_run 52 signB lex_sign (by intro args w; go_simp) s hs)
  unfold maxLen at hs
  have hrl := Lib.hid (runLen_iff signB s.data.toList)
  have hz := Lib.hid (size_toList s)
  cases hf : fitsB s with
  | false =>
    have HF := Lib.hid hf; clear hf
    go_enter Try.func25, Try.ntmps25
    go_wp2_with fail
    refine (h1.out _).mono ?_
    rw [HF.out]
    rintro e w' ⟨rfl, rfl⟩
    go_wp2_with fail
    go_ret
    exact ⟨by simp [isSym, HF.out], rfl⟩
  | true =>
    have HF := Lib.hid hf; clear hf
    by_cases hr : ((runLen signB s.data.toList : Nat) : Int) = s.size
    · have hrb : (((runLen signB s.data.toList : Nat) : Int) == (s.size : Int)) = true := by rw [beq_iff_eq]; exact hr
      have HR := Lib.hid hr; clear hr
      go_enter Try.func25, Try.ntmps25
      go_wp2_with fail
      refine (h1.out _).mono ?_
      rw [HF.out]
      rintro e w' ⟨rfl, rfl⟩
      go_wp2_with fail
      refine (h3.out _).mono ?_
      rintro e w' ⟨rfl, rfl⟩
      go_wp2_with fail
      go_ret
      refine ⟨ret_bool ?_, rfl⟩
      have ha : s.data.toList.all signB = true := hrl.out.1 (by have := HR.out; have := hz.out; omega)
      simp [isSym, HF.out, ha]
    · have hrb : (((runLen signB s.data.toList : Nat) : Int) == (s.size : Int)) = false := by rw [beq_eq_false_iff_ne]; exact hr
      have ha : s.data.toList.all signB = false := by
        cases h : s.data.toList.all signB with
        | false => rfl
        | true => exact absurd (by have := hrl.out.2 h; have := hz.out; omega) hr
      have HA := Lib.hid ha; clear ha hr
      by_cases h1s : s.size = 1
      · have hb1 : ((s.size : Int) == 1) = true := by rw [beq_iff_eq]; omega
        have hne : (s.toList == (⟨#[44, 59, 33]⟩ : ByteArray).toList) = false := by
          rw [beq_eq_false_iff_ne]
          intro e
          have := congrArg List.length e
          rw [toListE, toListE, size_toList, size_toList, h1s] at this
          exact absurd this (by decide)
        have h4 := Lib.hid (strings_Contains_one ⟨#[44, 59, 33]⟩ s h1s hne)
        have H1 := Lib.hid h1s; clear h1s hne
        go_enter Try.func25, Try.ntmps25
        go_wp2_with fail
        refine (h1.out _).mono ?_
        rw [HF.out]
        rintro e w' ⟨rfl, rfl⟩
        go_wp2_with fail
        refine (h3.out _).mono ?_
        rintro e w' ⟨rfl, rfl⟩
        go_wp2_with fail
        refine (h4.out _).mono ?_
        rintro e w' ⟨rfl, rfl⟩
        go_wp2_with fail
        go_ret
        refine ⟨ret_bool ?_, rfl⟩
        have hs1 := single_iff s.data.toList (by rw [hz.out]; exact H1.out)
        simp only [isSym, HF.out, HA.out, Bool.true_and, Bool.false_or]
        rw [← hs1, decide_eq_true_iff]
        rfl
      · have hb1 : ((s.size : Int) == 1) = false := by rw [beq_eq_false_iff_ne]; omega
        have H1 := Lib.hid h1s; clear h1s
        go_enter Try.func25, Try.ntmps25
        go_wp2_with fail
        refine (h1.out _).mono ?_
        rw [HF.out]
        rintro e w' ⟨rfl, rfl⟩
        go_wp2_with fail
        refine (h3.out _).mono ?_
        rintro e w' ⟨rfl, rfl⟩
        go_wp2_with fail
        go_ret
        refine ⟨ret_bool ?_, rfl⟩
        have hn : ∀ c : UInt8, (s.data.toList == [c]) = false := fun c => by
          rw [beq_eq_false_iff_ne]
          intro e
          have := congrArg List.length e
          rw [size_toList] at this
          exact H1.out (by simpa using this)
        simp only [isSym, HF.out, HA.out, hn]
        simp
end Go.Proofs.Ytbdappbmlnpogaa
namespace Go.Proofs.Ytbdappbmlnpogaa
open Go Go.Proofs Go.RowKit
set_option maxRecDepth 100000
def tmBytes : Nat := 56
theorem isSl_tms : IsSl Try.prog 24 30 4 56 :=
  isSl_of (z := .agg #[.int .i64 0, .string ByteArray.empty, .int .i64 0, .slice none 0 0]) Try.underlying24 (by kernel_rfl) rfl (by decide)
/-- What a function value of a predicate on terms comes to, at the terms of a list. -/
def TmPred (g : FuncId) (caps : Array Value) (p : Tm → Bool) (H : GH) (w : World) (l : List Tm) : Prop :=
  ∀ t ∈ l, ∀ cs w', Below w.heap.size w w' → Rep H t cs → Calls Try.prog g (#[.agg cs.toArray] ++ caps) w' fun e w'' => e = .returned (.bool (p t)) ∧ Below w'.heap.size w' w''
set_option maxHeartbeats 1000000 in
theorem indexFunc (g : FuncId) (caps : Array Value) (eg : ∀ args w, (callFunc g args).run Try.prog w = .ok (.enter g args) w) (p : Tm → Bool) (H : GH) (w : World) (v : Value) (l : List Tm) (hs : Tms H v l) (hA : Agree H w)
    (hp : TmPred g caps p H w l) :
    Calls Try.prog 54 #[v, .func (.func g) #[] caps] w fun e w' => e = .returned (.int .i64 (idx p l 0)) ∧ Below w.heap.size w w' := by
  obtain ⟨a, cap, rfl, hl, hc⟩ := hs.form
  unfold maxLen at hc
  go_enter Try.func54, Try.ntmps54
  go_wp2
  go_loopw [8] (fun i wr => ∃ k : Nat, k ≤ l.length ∧ i = .int .i64 k ∧ Below w.heap.size w wr ∧ Hid (∀ (j : Nat) (y : Tm), j < k → l[j]? = some y → p y = false)) (fun i _ => l.length - (intOf i).toNat)
  case atStart => exact ⟨0, Nat.zero_le _, rfl, Below.refl _ _, fun j y hj => absurd hj (by omega)⟩
  case round =>
    obtain ⟨k, hk, rfl, hb, hn⟩ := hrel
    by_cases hlt : k < l.length
    · have hx : l[k]? = some l[k] := List.getElem?_eq_getElem hlt
      obtain ⟨b, o, cs, rfl, hcl, hR, hcell⟩ := hs.get hx
      have hA' := hA.below hb
      have hcall := hp l[k] (List.getElem_mem hlt) cs wr hb hR
      obtain ⟨a1, cap1, rfl, -⟩ := hR.open_
      have c0 := hA'.cell (hcell 0 _ rfl)
      have c1 := hA'.cell (hcell 1 _ rfl)
      have c2 := hA'.cell (hcell 2 _ rfl)
      have c3 := hA'.cell (hcell 3 _ rfl)
      simp only [Nat.add_zero, ← Nat.add_assoc] at c0 c1 c2 c3
      have Hx := Lib.hid hx
      have HC := Lib.hid hcall
      clear hx hcell hp hcall
      cases hq : p l[k] with
      | true =>
        have Hq := Lib.hid hq
        clear hq
        go_wp2_with fail
        refine HC.out.mono ?_
        rw [Hq.out]
        rintro e w' ⟨rfl, hb'⟩
        go_wp2_with fail
        go_ret
        refine ⟨?_, hb.trans (hb'.mono hb.size)⟩
        rw [idx_hit p l k 0 _ Hx.out Hq.out hn.out, Int.zero_add]
        rfl
      | false =>
        have Hq := Lib.hid hq
        clear hq
        go_wp2_with fail
        refine HC.out.mono ?_
        rw [Hq.out]
        rintro e w' ⟨rfl, hb'⟩
        go_wp2_with fail
        go_roundw
        case rel =>
          refine ⟨k + 1, by omega, by go_num, hb.trans (hb'.mono hb.size), fun j y hj hy => ?_⟩
          by_cases e : j = k
          · subst e
            rw [Hx.out] at hy
            injection hy with hy
            subst hy
            exact Hq.out
          · exact hn.out j y (by omega) hy
        case measure => simp [intOf]; omega
    · go_wp2
      go_ret
      refine ⟨?_, hb⟩
      rw [idx_miss p l 0 (fun j y hy => hn.out j y (by have := (List.getElem?_eq_some_iff.1 hy).1; omega) hy)]
      rfl
theorem containsFunc (g : FuncId) (caps : Array Value) (eg : ∀ args w, (callFunc g args).run Try.prog w = .ok (.enter g args) w) (p : Tm → Bool) (H : GH) (w : World) (v : Value) (l : List Tm) (hs : Tms H v l) (hA : Agree H w)
    (hp : TmPred g caps p H w l) :
    Calls Try.prog 26 #[v, .func (.func g) #[] caps] w fun e w' => e = .returned (.bool (l.any p)) ∧ Below w.heap.size w w' := by
  have h1 := Lib.hid (indexFunc g caps eg p H w v l hs hA hp)
  have h2 := Lib.hid (idx_any p l)
  clear hp hs hA
  go_enter Try.func26, Try.ntmps26
  go_wp2_with fail
  refine h1.out.mono ?_
  rintro e w' ⟨rfl, hb⟩
  go_wp2_with fail
  go_ret
  refine ⟨?_, hb⟩
  rw [← h2.out]
  simp
end Go.Proofs.Ytbdappbmlnpogaa
namespace Go.Proofs.Ytbdappbmlnpogaa
open Go Go.Proofs Go.RowKit
set_option maxRecDepth 100000
theorem any_not_valid (l : List Tm) : (l.any fun t => !t.valid) = !Tm.validL l := by
  induction l with
  | nil => rfl
  | cons x xs ih => rw [List.any_cons, Tm.validL_cons, ih, Bool.not_and]
/-- A closure that says '!Valid(u)'. -/
def NotValid (g : FuncId) : Prop := ∀ (t : Tm) (cs : List Value) (H : GH) (w : World), Rep H t cs → Agree H w →
  (∀ (W : World), Below w.heap.size w W → Calls Try.prog 8 #[.agg cs.toArray] W fun e w' => e = .returned (.bool t.valid) ∧ Below W.heap.size W w') →
  Calls Try.prog g #[.agg cs.toArray] w fun e w' => e = .returned (.bool (!t.valid)) ∧ Below w.heap.size w w'
theorem term_Valid1 : NotValid 27 := by
  intro t cs H w hR hA hv
  obtain ⟨a, cap, rfl, -⟩ := hR.open_
  have hv := Lib.hid hv
  go_enter Try.func27, Try.ntmps27
  go_wp2_with fail
  refine (hv.out _ (below_alloc _ _)).mono ?_
  rintro e w' ⟨rfl, hb⟩
  go_wp2_with fail
  go_ret
  exact ⟨rfl, (below_alloc _ _).trans (hb.mono (below_alloc _ _).size)⟩

set_option maxHeartbeats 4000000 in
theorem valid_eigen (s : ByteArray) (n : Int) (l : List Tm) (a : Option Addr) (cap : Nat) (w : World) (hs : s.size ≤ maxLen) (hl : l.length ≤ cap) (hc : cap ≤ maxLen)
    (HC : Hid (∀ W : World, Below w.heap.size w W → Calls Try.prog 26 #[.slice a l.length cap, .func (.func 27) #[] #[]] W fun e w' => e = .returned (.bool (!Tm.validL l)) ∧ Below W.heap.size W w')) :
    Calls Try.prog 8 #[.agg #[.int .i64 1, .string s, .int .i64 n, .slice a l.length cap]] w fun e w' => e = .returned (.bool (Tm.mk 1 s n l).valid) ∧ Below w.heap.size w w' := by
  have hsz : (s.size = 0) ↔ s.toList = [] := by rw [toListE, ← size_toList]; exact List.length_eq_zero_iff
  have hse : (s.size == 0) = s.toList.isEmpty := by rw [Bool.eq_iff_iff]; simp [hsz]
  have hle : l.isEmpty = decide (l.length = 0) := by cases l <;> simp
  have hv := Lib.hid (show (Tm.mk 1 s n l).valid = (decide (1 ≤ n) && s.toList.isEmpty && decide (l.length = 0) && Tm.validL l) by
    rw [Tm.valid_mk, Bool.eq_iff_iff]; simp [Tm.ok1, *]; try grind)
  unfold maxLen at hs hc
  clear hsz hse hle
  go_enter Try.func8, Try.ntmps8
  go_wp2_with fail
  all_goals first
    | (have hl0 : l = [] := by assumption
       subst hl0
       refine (HC.out _ (below_alloc _ _)).mono ?_
       rintro e w' ⟨rfl, hb⟩
       go_wp2_with fail
       go_ret
       exact ⟨ret_bool (by rw [hv.out]; simp [*]; try (intros; omega)), (below_alloc _ _).trans (hb.mono (below_alloc _ _).size)⟩)
    | (refine (HC.out _ (below_alloc _ _)).mono ?_
       rintro e w' ⟨rfl, hb⟩
       go_wp2_with fail
       go_ret
       exact ⟨ret_bool (by rw [hv.out]; simp [*]; try (intros; omega)), (below_alloc _ _).trans (hb.mono (below_alloc _ _).size)⟩)
    | (go_ret
       exact ⟨ret_bool (by rw [hv.out]; simp [*]; try (intros; omega)), below_alloc _ _⟩)

set_option maxHeartbeats 4000000 in
theorem valid_int (s : ByteArray) (n : Int) (l : List Tm) (a : Option Addr) (cap : Nat) (w : World) (hs : s.size ≤ maxLen) (hl : l.length ≤ cap) (hc : cap ≤ maxLen)
    (HC : Hid (∀ W : World, Below w.heap.size w W → Calls Try.prog 26 #[.slice a l.length cap, .func (.func 27) #[] #[]] W fun e w' => e = .returned (.bool (!Tm.validL l)) ∧ Below W.heap.size W w')) :
    Calls Try.prog 8 #[.agg #[.int .i64 2, .string s, .int .i64 n, .slice a l.length cap]] w fun e w' => e = .returned (.bool (Tm.mk 2 s n l).valid) ∧ Below w.heap.size w w' := by
  have hsz : (s.size = 0) ↔ s.toList = [] := by rw [toListE, ← size_toList]; exact List.length_eq_zero_iff
  have hse : (s.size == 0) = s.toList.isEmpty := by rw [Bool.eq_iff_iff]; simp [hsz]
  have hle : l.isEmpty = decide (l.length = 0) := by cases l <;> simp
  have hv := Lib.hid (show (Tm.mk 2 s n l).valid = (true && s.toList.isEmpty && decide (l.length = 0) && Tm.validL l) by
    rw [Tm.valid_mk, Bool.eq_iff_iff]; simp [Tm.ok1, *]; try grind)
  unfold maxLen at hs hc
  clear hsz hse hle
  go_enter Try.func8, Try.ntmps8
  go_wp2_with fail
  all_goals first
    | (have hl0 : l = [] := by assumption
       subst hl0
       refine (HC.out _ (below_alloc _ _)).mono ?_
       rintro e w' ⟨rfl, hb⟩
       go_wp2_with fail
       go_ret
       exact ⟨ret_bool (by rw [hv.out]; simp [*]; try (intros; omega)), (below_alloc _ _).trans (hb.mono (below_alloc _ _).size)⟩)
    | (refine (HC.out _ (below_alloc _ _)).mono ?_
       rintro e w' ⟨rfl, hb⟩
       go_wp2_with fail
       go_ret
       exact ⟨ret_bool (by rw [hv.out]; simp [*]; try (intros; omega)), (below_alloc _ _).trans (hb.mono (below_alloc _ _).size)⟩)
    | (go_ret
       exact ⟨ret_bool (by rw [hv.out]; simp [*]; try (intros; omega)), below_alloc _ _⟩)

set_option maxHeartbeats 4000000 in
theorem valid_bound (s : ByteArray) (n : Int) (l : List Tm) (a : Option Addr) (cap : Nat) (w : World) (hs : s.size ≤ maxLen) (hl : l.length ≤ cap) (hc : cap ≤ maxLen)
    (HC : Hid (∀ W : World, Below w.heap.size w W → Calls Try.prog 26 #[.slice a l.length cap, .func (.func 27) #[] #[]] W fun e w' => e = .returned (.bool (!Tm.validL l)) ∧ Below W.heap.size W w')) :
    Calls Try.prog 8 #[.agg #[.int .i64 3, .string s, .int .i64 n, .slice a l.length cap]] w fun e w' => e = .returned (.bool (Tm.mk 3 s n l).valid) ∧ Below w.heap.size w w' := by
  have hsz : (s.size = 0) ↔ s.toList = [] := by rw [toListE, ← size_toList]; exact List.length_eq_zero_iff
  have hse : (s.size == 0) = s.toList.isEmpty := by rw [Bool.eq_iff_iff]; simp [hsz]
  have hle : l.isEmpty = decide (l.length = 0) := by cases l <;> simp
  have hv := Lib.hid (show (Tm.mk 3 s n l).valid = (decide (0 ≤ n ∧ n ≤ Tm.far) && s.toList.isEmpty && decide (l.length = 0) && Tm.validL l) by
    rw [Tm.valid_mk, Bool.eq_iff_iff]; simp [Tm.ok1, *]; try grind)
  unfold maxLen at hs hc
  clear hsz hse hle
  have hfar := Lib.hid (show Tm.far = 4611686018427387904 from rfl)
  go_enter Try.func8, Try.ntmps8
  go_wp2_with fail
  all_goals first
    | (have hl0 : l = [] := by assumption
       subst hl0
       refine (HC.out _ (below_alloc _ _)).mono ?_
       rintro e w' ⟨rfl, hb⟩
       go_wp2_with fail
       go_ret
       exact ⟨ret_bool (by rw [hv.out, hfar.out]; simp [*]; try (intros; omega)), (below_alloc _ _).trans (hb.mono (below_alloc _ _).size)⟩)
    | (refine (HC.out _ (below_alloc _ _)).mono ?_
       rintro e w' ⟨rfl, hb⟩
       go_wp2_with fail
       go_ret
       exact ⟨ret_bool (by rw [hv.out, hfar.out]; simp [*]; try (intros; omega)), (below_alloc _ _).trans (hb.mono (below_alloc _ _).size)⟩)
    | (go_ret
       exact ⟨ret_bool (by rw [hv.out, hfar.out]; simp [*]; try (intros; omega)), below_alloc _ _⟩)

set_option maxHeartbeats 4000000 in
theorem valid_var (s : ByteArray) (n : Int) (l : List Tm) (a : Option Addr) (cap : Nat) (w : World) (hs : s.size ≤ maxLen) (hl : l.length ≤ cap) (hc : cap ≤ maxLen)
    (HC : Hid (∀ W : World, Below w.heap.size w W → Calls Try.prog 26 #[.slice a l.length cap, .func (.func 27) #[] #[]] W fun e w' => e = .returned (.bool (!Tm.validL l)) ∧ Below W.heap.size W w')) :
    Calls Try.prog 8 #[.agg #[.int .i64 4, .string s, .int .i64 n, .slice a l.length cap]] w fun e w' => e = .returned (.bool (Tm.mk 4 s n l).valid) ∧ Below w.heap.size w w' := by
  have hsz : (s.size = 0) ↔ s.toList = [] := by rw [toListE, ← size_toList]; exact List.length_eq_zero_iff
  have hse : (s.size == 0) = s.toList.isEmpty := by rw [Bool.eq_iff_iff]; simp [hsz]
  have hle : l.isEmpty = decide (l.length = 0) := by cases l <;> simp
  have hv := Lib.hid (show (Tm.mk 4 s n l).valid = (decide (0 ≤ n ∧ n ≤ Tm.far) && s.toList.isEmpty && decide (l.length = 0) && Tm.validL l) by
    rw [Tm.valid_mk, Bool.eq_iff_iff]; simp [Tm.ok1, *]; try grind)
  unfold maxLen at hs hc
  clear hsz hse hle
  have hfar := Lib.hid (show Tm.far = 4611686018427387904 from rfl)
  go_enter Try.func8, Try.ntmps8
  go_wp2_with fail
  all_goals first
    | (have hl0 : l = [] := by assumption
       subst hl0
       refine (HC.out _ (below_alloc _ _)).mono ?_
       rintro e w' ⟨rfl, hb⟩
       go_wp2_with fail
       go_ret
       exact ⟨ret_bool (by rw [hv.out, hfar.out]; simp [*]; try (intros; omega)), (below_alloc _ _).trans (hb.mono (below_alloc _ _).size)⟩)
    | (refine (HC.out _ (below_alloc _ _)).mono ?_
       rintro e w' ⟨rfl, hb⟩
       go_wp2_with fail
       go_ret
       exact ⟨ret_bool (by rw [hv.out, hfar.out]; simp [*]; try (intros; omega)), (below_alloc _ _).trans (hb.mono (below_alloc _ _).size)⟩)
    | (go_ret
       exact ⟨ret_bool (by rw [hv.out, hfar.out]; simp [*]; try (intros; omega)), below_alloc _ _⟩)

set_option maxHeartbeats 4000000 in
theorem valid_lam (s : ByteArray) (n : Int) (l : List Tm) (a : Option Addr) (cap : Nat) (w : World) (hs : s.size ≤ maxLen) (hl : l.length ≤ cap) (hc : cap ≤ maxLen)
    (HC : Hid (∀ W : World, Below w.heap.size w W → Calls Try.prog 26 #[.slice a l.length cap, .func (.func 27) #[] #[]] W fun e w' => e = .returned (.bool (!Tm.validL l)) ∧ Below W.heap.size W w')) :
    Calls Try.prog 8 #[.agg #[.int .i64 5, .string s, .int .i64 n, .slice a l.length cap]] w fun e w' => e = .returned (.bool (Tm.mk 5 s n l).valid) ∧ Below w.heap.size w w' := by
  have hsz : (s.size = 0) ↔ s.toList = [] := by rw [toListE, ← size_toList]; exact List.length_eq_zero_iff
  have hse : (s.size == 0) = s.toList.isEmpty := by rw [Bool.eq_iff_iff]; simp [hsz]
  have hle : l.isEmpty = decide (l.length = 0) := by cases l <;> simp
  have hv := Lib.hid (show (Tm.mk 5 s n l).valid = ((n == 0) && s.toList.isEmpty && decide (l.length = 1) && Tm.validL l) by
    rw [Tm.valid_mk, Bool.eq_iff_iff]; simp [Tm.ok1, *]; try grind)
  unfold maxLen at hs hc
  clear hsz hse hle
  go_enter Try.func8, Try.ntmps8
  go_wp2_with fail
  all_goals first
    | (have hl0 : l = [] := by assumption
       subst hl0
       refine (HC.out _ (below_alloc _ _)).mono ?_
       rintro e w' ⟨rfl, hb⟩
       go_wp2_with fail
       go_ret
       exact ⟨ret_bool (by rw [hv.out]; simp [*]; try (intros; omega)), (below_alloc _ _).trans (hb.mono (below_alloc _ _).size)⟩)
    | (refine (HC.out _ (below_alloc _ _)).mono ?_
       rintro e w' ⟨rfl, hb⟩
       go_wp2_with fail
       go_ret
       exact ⟨ret_bool (by rw [hv.out]; simp [*]; try (intros; omega)), (below_alloc _ _).trans (hb.mono (below_alloc _ _).size)⟩)
    | (go_ret
       exact ⟨ret_bool (by rw [hv.out]; simp [*]; try (intros; omega)), below_alloc _ _⟩)

set_option maxHeartbeats 4000000 in
theorem valid_other (k : Int) (s : ByteArray) (n : Int) (l : List Tm) (h0 : k ≠ 0) (h1 : k ≠ 1) (h2 : k ≠ 2) (h3 : k ≠ 3) (h4 : k ≠ 4) (h5 : k ≠ 5) (h6 : k ≠ 6) (a : Option Addr) (cap : Nat) (w : World) (hs : s.size ≤ maxLen) (hl : l.length ≤ cap) (hc : cap ≤ maxLen)
    (HC : Hid (∀ W : World, Below w.heap.size w W → Calls Try.prog 26 #[.slice a l.length cap, .func (.func 27) #[] #[]] W fun e w' => e = .returned (.bool (!Tm.validL l)) ∧ Below W.heap.size W w')) :
    Calls Try.prog 8 #[.agg #[.int .i64 k, .string s, .int .i64 n, .slice a l.length cap]] w fun e w' => e = .returned (.bool (Tm.mk k s n l).valid) ∧ Below w.heap.size w w' := by
  have hv := Lib.hid (show (Tm.mk k s n l).valid = false by rw [Tm.valid_mk]; simp [Tm.ok1, *])
  have b0 : (k == 0) = false := beq_eq_false_iff_ne.2 h0
  have b1 : (k == 1) = false := beq_eq_false_iff_ne.2 h1
  have b2 : (k == 2) = false := beq_eq_false_iff_ne.2 h2
  have b3 : (k == 3) = false := beq_eq_false_iff_ne.2 h3
  have b4 : (k == 4) = false := beq_eq_false_iff_ne.2 h4
  have b5 : (k == 5) = false := beq_eq_false_iff_ne.2 h5
  have b6 : (k == 6) = false := beq_eq_false_iff_ne.2 h6
  unfold maxLen at hs hc
  go_enter Try.func8, Try.ntmps8
  go_wp2_with fail
  go_ret
  exact ⟨ret_bool (by rw [hv.out]), below_alloc _ _⟩


set_option maxHeartbeats 4000000 in
theorem valid_const (s : ByteArray) (n : Int) (l : List Tm) (a : Option Addr) (cap : Nat) (w : World) (hs : s.size ≤ maxLen) (hl : l.length ≤ cap) (hc : cap ≤ maxLen) :
    Calls Try.prog 8 #[.agg #[.int .i64 0, .string s, .int .i64 n, .slice a l.length cap]] w fun e w' => e = .returned (.bool (Tm.mk 0 s n l).valid) ∧ Below w.heap.size w w' := by
  have hv := Lib.hid (show (Tm.mk 0 s n l).valid = ((isName s || isSym s) && (n == 0) && decide (l.length = 0)) by
    rw [Tm.valid_mk]; simp only [Tm.ok1, if_true]; cases l <;> simp)
  have h1 := Lib.hid (lex_IsName s hs)
  have h2 := Lib.hid (lex_IsSym s hs)
  unfold maxLen at hs hc
  cases hn : isName s with
  | true =>
    have HN := Lib.hid hn; clear hn
    go_enter Try.func8, Try.ntmps8
    go_wp2_with fail
    refine (h1.out _).mono ?_
    rw [HN.out]
    rintro e w' ⟨rfl, rfl⟩
    go_wp2_with fail
    all_goals
      go_ret
      exact ⟨ret_bool (by rw [hv.out, HN.out]; simp [*]), below_alloc _ _⟩
  | false =>
    have HN := Lib.hid hn; clear hn
    cases hy : isSym s with
    | true =>
      have HY := Lib.hid hy; clear hy
      go_enter Try.func8, Try.ntmps8
      go_wp2_with fail
      refine (h1.out _).mono ?_
      rw [HN.out]
      rintro e w' ⟨rfl, rfl⟩
      go_wp2_with fail
      refine (h2.out _).mono ?_
      rw [HY.out]
      rintro e w' ⟨rfl, rfl⟩
      go_wp2_with fail
      all_goals
        go_ret
        exact ⟨ret_bool (by rw [hv.out, HN.out, HY.out]; simp [*]), below_alloc _ _⟩
    | false =>
      have HY := Lib.hid hy; clear hy
      go_enter Try.func8, Try.ntmps8
      go_wp2_with fail
      refine (h1.out _).mono ?_
      rw [HN.out]
      rintro e w' ⟨rfl, rfl⟩
      go_wp2_with fail
      refine (h2.out _).mono ?_
      rw [HY.out]
      rintro e w' ⟨rfl, rfl⟩
      go_wp2_with fail
      all_goals
        go_ret
        exact ⟨ret_bool (by rw [hv.out, HN.out, HY.out]; simp), below_alloc _ _⟩

set_option maxHeartbeats 4000000 in
theorem valid_app (s : ByteArray) (n : Int) (l : List Tm) (a : Option Addr) (cap : Nat) (w : World) (hs : s.size ≤ maxLen) (hl : l.length ≤ cap) (hc : cap ≤ maxLen)
    (hcell : 2 ≤ l.length → ∃ b o, a = some ⟨b, o, none⟩ ∧ b < w.heap.size ∧ w.cell? ⟨b, o, none⟩ = some (.int .i64 (l.getD 0 Tm.zero).k))
    (HC : Hid (∀ W : World, Below w.heap.size w W → Calls Try.prog 26 #[.slice a l.length cap, .func (.func 27) #[] #[]] W fun e w' => e = .returned (.bool (!Tm.validL l)) ∧ Below W.heap.size W w')) :
    Calls Try.prog 8 #[.agg #[.int .i64 6, .string s, .int .i64 n, .slice a l.length cap]] w fun e w' => e = .returned (.bool (Tm.mk 6 s n l).valid) ∧ Below w.heap.size w w' := by
  have hsz : (s.size = 0) ↔ s.toList = [] := by rw [toListE, ← size_toList]; exact List.length_eq_zero_iff
  have hse : (s.size == 0) = s.toList.isEmpty := by rw [Bool.eq_iff_iff]; simp [hsz]
  have hv := Lib.hid (show (Tm.mk 6 s n l).valid = (s.toList.isEmpty && ((n == 0) && decide (2 ≤ l.length) && ((l.getD 0 Tm.zero).k != 6)) && Tm.validL l) by
    rw [Tm.valid_mk, Tm.ok1, if_neg (by decide), if_neg (by decide), if_neg (by decide), if_neg (by decide), if_neg (by decide), if_pos rfl, hse])
  unfold maxLen at hs hc
  clear hsz hse
  by_cases h2 : 2 ≤ l.length
  · obtain ⟨b, o, rfl, hb, h0⟩ := hcell h2
    generalize hk : (l.getD 0 Tm.zero).k = k0 at hv h0
    clear hk hcell
    have h2' : 2 ≤ (l.length : Int) := by omega
    have hlp : (0 : Int) < (l.length : Int) := by omega
    by_cases hn : n = 0
    · subst hn
      have hn0 : ((0 : Int) == 0) = true := rfl
      go_enter Try.func8, Try.ntmps8
      go_wp2_with fail
      go_quiet (fail)
      go_wp2_with fail
      all_goals first
        | (refine (HC.out _ (below_alloc_drewN _ _ _)).mono ?_
           rintro e w' ⟨rfl, hb⟩
           go_wp2_with fail
           go_ret
           exact ⟨ret_bool (by rw [hv.out]; simp [*]; try grind), (below_alloc_drewN _ _ _).trans (hb.mono (below_alloc_drewN _ _ _).size)⟩)
        | (go_ret
           exact ⟨ret_bool (by rw [hv.out]; simp [*]; try grind), below_alloc_drewN _ _ _⟩)
    · have hn0 : (n == 0) = false := by simpa using hn
      have HN := Lib.hid hn; clear hn
      go_enter Try.func8, Try.ntmps8
      go_wp2_with fail
      go_quiet (fail)
      go_wp2_with fail
      all_goals
        go_ret
        exact ⟨ret_bool (by rw [hv.out]; have := HN.out; simp [*]), below_alloc_drewN _ _ _⟩
  · have h2' : decide (2 ≤ (l.length : Int)) = false := by rw [decide_eq_false_iff_not]; omega
    clear hcell
    have H2 := Lib.hid h2; clear h2
    cases hn0 : (n == 0) with
    | true =>
      go_enter Try.func8, Try.ntmps8
      go_wp2_with fail
      go_quiet (fail)
      go_wp2_with fail
      all_goals
        go_ret
        exact ⟨ret_bool (by rw [hv.out]; have := H2.out; simp; omega), below_alloc_drewN _ _ _⟩
    | false =>
      go_enter Try.func8, Try.ntmps8
      go_wp2_with fail
      go_quiet (fail)
      go_wp2_with fail
      all_goals
        go_ret
        exact ⟨ret_bool (by rw [hv.out]; have := H2.out; simp; omega), below_alloc_drewN _ _ _⟩

/-- term.Valid. -/
theorem term_Valid (t : Tm) : ∀ (cs : List Value) (H : GH) (w : World), Rep H t cs → Agree H w →
    Calls Try.prog 8 #[.agg cs.toArray] w fun e w' => e = .returned (.bool t.valid) ∧ Below w.heap.size w w' := by
  induction t using Tm.ind with
  | h k s n l ih =>
    intro cs H w hR hA
    cases hR with
    | mk _ _ _ _ a cap C hk hn hs hl hc hr hx =>
      have hT : Tms H (.slice a l.length cap) l := ⟨a, cap, C, rfl, hl, hc, hr, hx⟩
      have HC : Hid (∀ W : World, Below w.heap.size w W → Calls Try.prog 26 #[.slice a l.length cap, .func (.func 27) #[] #[]] W fun e w' => e = .returned (.bool (!Tm.validL l)) ∧ Below W.heap.size W w') := by
        intro W hW
        have hAW := hA.below hW
        have := containsFunc 27 #[] (by intro args w; go_simp) (fun t => !t.valid) H W (.slice a l.length cap) l hT hAW (fun t ht cs' w' hw' hR' =>
          term_Valid1 t cs' H w' hR' (hAW.below hw') (fun W' hW' => ih t ht cs' H W' hR' ((hAW.below hw').below hW')))
        rw [any_not_valid] at this
        exact this
      by_cases h0 : k = 0
      · subst h0; exact valid_const s n l a cap w hs hl hc
      by_cases h1 : k = 1
      · subst h1; exact valid_eigen s n l a cap w hs hl hc HC
      by_cases h2 : k = 2
      · subst h2; exact valid_int s n l a cap w hs hl hc HC
      by_cases h3 : k = 3
      · subst h3; exact valid_bound s n l a cap w hs hl hc HC
      by_cases h4 : k = 4
      · subst h4; exact valid_var s n l a cap w hs hl hc HC
      by_cases h5 : k = 5
      · subst h5; exact valid_lam s n l a cap w hs hl hc HC
      by_cases h6 : k = 6
      · subst h6
        refine valid_app s n l a cap w hs hl hc (fun h => ?_) HC
        have hx0 : l[0]? = some l[0] := List.getElem?_eq_getElem (by omega)
        obtain ⟨b, o, cs', ha, hlen, hR0, hcell⟩ := hT.get hx0
        obtain ⟨a1, cap1, rfl, -⟩ := hR0.open_
        have c0 := hA.cell (hcell 0 _ rfl)
        have hg : l.getD 0 Tm.zero = l[0] := by rw [List.getD_eq_getElem?_getD, hx0]; rfl
        refine ⟨b, o, ha, World.block_lt_of_cell? w _ c0, ?_⟩
        rw [hg]
        simpa using c0
      exact valid_other k s n l h0 h1 h2 h3 h4 h5 h6 a cap w hs hl hc HC
end Go.Proofs.Ytbdappbmlnpogaa
