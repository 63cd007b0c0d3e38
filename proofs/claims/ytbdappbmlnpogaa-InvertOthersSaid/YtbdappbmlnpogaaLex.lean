/- Package lex (and the reference's): names and symbols: what the calls return is isName, isSym. -/
import Derived.Test.YtbdappbmlnpogaaMem
import Derived.Test.YtbdappbmlnpogaaChecked
import Derived.Lib.Bytealg
namespace Go.Proofs.Ytbdappbmlnpogaa
open Go Go.Proofs Go.RowKit
set_option maxRecDepth 100000

def idx {α : Type} (p : α → Bool) : List α → Int → Int | [], _ => -1 | x :: xs, i => if p x then i else idx p xs (i + 1)
theorem idx_hit {α : Type} (p : α → Bool) (l : List α) : ∀ (k : Nat) (i : Int) (x : α), l[k]? = some x → p x = true → (∀ (j : Nat) (y : α), j < k → l[j]? = some y → p y = false) → idx p l i = i + k := by
  induction l with
  | nil => intro k i x h; simp at h
  | cons y ys ih =>
    intro k i x hx hp hn
    cases k with
    | zero => simp at hx; subst hx; simp [idx, hp]
    | succ k =>
      have h0 := hn 0 y (by omega) (by simp)
      rw [idx, if_neg (by simp [h0]), ih k (i + 1) x (by simpa using hx) hp (fun j z hj hz => hn (j + 1) z (by omega) (by simpa using hz))]
      omega
theorem idx_miss {α : Type} (p : α → Bool) (l : List α) : ∀ (i : Int), (∀ (j : Nat) (y : α), l[j]? = some y → p y = false) → idx p l i = -1 := by
  induction l with
  | nil => intro i h; rfl
  | cons y ys ih =>
    intro i hn
    have h0 := hn 0 y (by simp)
    rw [idx, if_neg (by simp [h0]), ih (i + 1) (fun j z hz => hn (j + 1) z (by simpa using hz))]
theorem idx_neg {α : Type} (p : α → Bool) (l : List α) : ∀ (i : Int), 0 ≤ i → (idx p l i < 0 ↔ l.any p = false) ∧ -1 ≤ idx p l i := by
  induction l with
  | nil => intro i hi; simp [idx]
  | cons y ys ih =>
    intro i hi
    rw [idx]
    cases hp : p y with
    | true => simp [hp]; omega
    | false => simpa [hp] using ih (i + 1) (by omega)
theorem idx_any {α : Type} (p : α → Bool) (l : List α) : decide (0 ≤ idx p l 0) = l.any p := by
  have h := idx_neg p l 0 (by omega)
  cases ha : l.any p with
  | true =>
    have : ¬ idx p l 0 < 0 := fun h' => by rw [h.1.1 h'] at ha; cases ha
    simpa using this
  | false => have := h.1.2 ha; simpa using this

/-- What a predicate on a byte comes to. -/
def BytePred (g : FuncId) (p : UInt8 → Bool) : Prop := ∀ (c : UInt8) (w : World), Calls Try.prog g #[.int .u8 c.toNat] w fun e w' => e = .returned (.bool (p c)) ∧ w' = w

theorem byte_lt (c : UInt8) : (c.toNat : Int) < 256 := by have := c.toNat_lt; omega
theorem ret_bool {a b : Bool} (h : a = true ↔ b = true) : Ending.returned (.bool a) = .returned (.bool b) := by rw [Bool.eq_iff_iff.2 h]
theorem lex_small : BytePred 49 smallB := fun c w => by
  have hc := byte_lt c
  go_enter Try.func49, Try.ntmps49
  go_wp2
  all_goals (go_ret; refine ⟨ret_bool ?_, rfl⟩; simp [smallB]; try omega)
theorem lex_great : BytePred 70 greatB := fun c w => by
  have hc := byte_lt c
  go_enter Try.func70, Try.ntmps70
  go_wp2
  all_goals (go_ret; refine ⟨ret_bool ?_, rfl⟩; simp [greatB, *]; try omega)
theorem lex_digit : BytePred 71 digitB := fun c w => by
  have hc := byte_lt c
  go_enter Try.func71, Try.ntmps71
  go_wp2
  all_goals (go_ret; refine ⟨ret_bool ?_, rfl⟩; simp [digitB]; try omega)
theorem lex_inside : BytePred 51 insideB := fun c w => by
  have hc := byte_lt c
  cases h1 : smallB c <;> cases h2 : greatB c <;> cases h3 : digitB c
  all_goals
    have s1 := lex_small c; rw [h1] at s1
    have s2 := lex_great c; rw [h2] at s2
    have s3 := lex_digit c; rw [h3] at s3
    go_enter Try.func51, Try.ntmps51
    have H1 := Lib.hid h1; have H2 := Lib.hid h2; have H3 := Lib.hid h3
    clear h1 h2 h3
    go_wp2_with (first
      | (go_at_call 49; refine (s1 _).mono ?_; rintro e w' ⟨rfl, rfl⟩)
      | (go_at_call 70; refine (s2 _).mono ?_; rintro e w' ⟨rfl, rfl⟩)
      | (go_at_call 71; refine (s3 _).mono ?_; rintro e w' ⟨rfl, rfl⟩))
    all_goals (go_ret; refine ⟨ret_bool ?_, rfl⟩; simp [insideB, H1.out, H2.out, H3.out]; try omega)
theorem stringslite_IndexByte (s : ByteArray) (c : UInt8) (w : World) :
    Calls Try.prog 82 #[.string s, .int .u8 c.toNat] w fun e w' => e = .returned (.int .i64 (Lib.indexByte s.data.toList c)) ∧ w' = w := by
  have hc := Lib.hid (show (c.toNat : Int).toNat.toUInt8 = c by simp)
  go_enter Try.func82, Try.ntmps82
  go_wp2
  rw [run_callFunc_extern Try.func91 (by kernel_rfl) (by kernel_rfl) (by kernel_rfl) (e := Extern.BytealgIndexByte.indexByte) (by kernel_rfl), Lib.run_indexByteString]
  simp only [Result.andThen]
  rw [Oper.upon_value]
  go_wp2
  go_ret
  exact ⟨by rw [← hc.out]; simp, rfl⟩
theorem strings_IndexByte (s : ByteArray) (c : UInt8) (w : World) :
    Calls Try.prog 72 #[.string s, .int .u8 c.toNat] w fun e w' => e = .returned (.int .i64 (Lib.indexByte s.data.toList c)) ∧ w' = w := by
  go_enter Try.func72, Try.ntmps72
  go_wp2_with (go_at_call 82; refine (stringslite_IndexByte _ _ _).mono ?_; rintro e w' ⟨rfl, rfl⟩)
  go_ret
  exact ⟨rfl, rfl⟩
theorem indexByte_iff (l : List UInt8) (c : UInt8) : 0 ≤ Lib.indexByte l c ↔ l.contains c = true := by
  induction l with
  | nil => simp [Lib.indexByte]
  | cons b l ih =>
    have hg := Lib.indexByte_ge l c
    rw [Lib.indexByte]
    by_cases hb : (b == c) = true
    · have : b = c := by simpa using hb
      subst this
      simp
    · rw [if_neg hb]
      have hb' : ¬ c = b := fun e => hb (by rw [e]; simp)
      split
      · rename_i h1
        have h1' : Lib.indexByte l c = -1 := by simpa using h1
        rw [h1'] at ih
        simp only [List.contains_cons, Bool.or_eq_true, ← ih]
        simp [hb']
      · rename_i h1
        have h1' : Lib.indexByte l c ≠ -1 := by simpa using h1
        simp only [List.contains_cons, Bool.or_eq_true, ← ih]
        simp [hb']
        omega
theorem lex_sign : BytePred 52 signB := fun c w => by
  have hi := Lib.hid (strings_IndexByte ⟨signL.toArray⟩ c w)
  have hii := Lib.hid (indexByte_iff signL c)
  go_enter Try.func52, Try.ntmps52
  go_wp2_with fail
  refine hi.out.mono ?_
  rintro e w' ⟨rfl, rfl⟩
  go_wp2_with fail
  go_ret
  refine ⟨ret_bool ?_, rfl⟩
  simpa [signB] using hii.out
/-- How many bytes a text begins with that are such. -/
def runLen (p : UInt8 → Bool) (l : List UInt8) : Nat := (l.takeWhile p).length
theorem runLen_stop (p : UInt8 → Bool) (l : List UInt8) : ∀ (k : Nat) (c : UInt8), l[k]? = some c → p c = false → (∀ (j : Nat) (y : UInt8), j < k → l[j]? = some y → p y = true) → runLen p l = k := by
  unfold runLen
  induction l with
  | nil => intro k c h; simp at h
  | cons b l ih =>
    intro k c hk hp hn
    cases k with
    | zero => simp at hk; subst hk; simp [hp]
    | succ k =>
      have h0 := hn 0 b (by omega) (by simp)
      simp only [List.takeWhile_cons, h0, if_true, List.length_cons]
      rw [ih k c (by simpa using hk) hp (fun j z hj hz => hn (j + 1) z (by omega) (by simpa using hz))]
theorem runLen_all (p : UInt8 → Bool) (l : List UInt8) (hn : ∀ (j : Nat) (y : UInt8), l[j]? = some y → p y = true) : runLen p l = l.length := by
  unfold runLen
  induction l with
  | nil => rfl
  | cons b l ih =>
    have h0 := hn 0 b (by simp)
    simp only [List.takeWhile_cons, h0, if_true, List.length_cons]
    rw [ih (fun j z hz => hn (j + 1) z (by simpa using hz))]
theorem runLen_iff (p : UInt8 → Bool) (l : List UInt8) : runLen p l = l.length ↔ l.all p = true := by
  unfold runLen
  induction l with
  | nil => simp
  | cons b l ih =>
    by_cases hb : p b = true
    · simp only [List.takeWhile_cons, hb, if_true, List.length_cons, List.all_cons, Bool.true_and]
      rw [← ih]; omega
    · simp [hb]
theorem lex_run (g : FuncId) (p : UInt8 → Bool) (hg : BytePred g p) (eg : ∀ args w, (callFunc g args).run Try.prog w = .ok (.enter g args) w) (s : ByteArray) (hs : s.size ≤ maxLen) (w : World) :
    Calls Try.prog 50 #[.string s, .func (.func g) #[] #[]] w fun e w' => e = .returned (.int .i64 (runLen p s.data.toList)) ∧ w' = w := by
  unfold maxLen at hs
  go_enter Try.func50, Try.ntmps50
  go_wp2
  go_loop [8] (fun i => ∃ k : Nat, k ≤ s.size ∧ i = .int .i64 k ∧ Hid (∀ (j : Nat) (y : UInt8), j < k → s.data.toList[j]? = some y → p y = true)) (fun i => s.size - (intOf i).toNat)
  case atStart => exact ⟨0, Nat.zero_le _, rfl, fun j y hj => absurd hj (by omega)⟩
  case round =>
    obtain ⟨k, hk, rfl, hn⟩ := hrel
    by_cases hlt : k < s.size
    · have hx : s.data.toList[k]? = some s[k] := List.getElem?_eq_getElem hlt
      have hcall := Lib.hid (hg s[k])
      have HX := Lib.hid hx
      clear hx
      cases hq : p s[k] with
      | true =>
        have Hq := Lib.hid hq
        clear hq
        go_wp2_with fail
        refine (hcall.out _).mono ?_
        rw [Hq.out]
        rintro e w' ⟨rfl, rfl⟩
        go_wp2_with fail
        go_round
        case rel =>
          refine ⟨k + 1, by omega, by go_num, fun j y hj hy => ?_⟩
          by_cases e : j = k
          · subst e
            rw [HX.out] at hy
            injection hy with hy
            subst hy
            exact Hq.out
          · exact hn.out j y (by omega) hy
        case measure => simp [intOf]; omega
      | false =>
        have Hq := Lib.hid hq
        clear hq
        go_wp2_with fail
        refine (hcall.out _).mono ?_
        rw [Hq.out]
        rintro e w' ⟨rfl, rfl⟩
        go_wp2_with fail
        go_ret
        refine ⟨?_, rfl⟩
        rw [runLen_stop p _ k _ HX.out Hq.out hn.out]
        rfl
    · go_wp2
      go_ret
      refine ⟨?_, rfl⟩
      rw [runLen_all p _ (fun j y hy => hn.out j y (by have := (List.getElem?_eq_some_iff.1 hy).1; have h2 : s.data.toList.length = s.size := (by simp); omega) hy)]
      simp
theorem size_toList (s : ByteArray) : s.data.toList.length = s.size := by simp
theorem toListE (s : ByteArray) : s.toList = s.data.toList := ByteArray.toList_eq s
theorem fitsB_iff (s : ByteArray) : fitsB s = true ↔ 0 < s.size ∧ s.size ≤ 32 := by
  unfold fitsB
  rw [Bool.and_eq_true, decide_eq_true_iff, decide_eq_true_iff]
  omega
theorem lex_fits (s : ByteArray) (hs : s.size ≤ maxLen) (w : World) : Calls Try.prog 48 #[.string s] w fun e w' => e = .returned (.bool (fitsB s)) ∧ w' = w := by
  unfold maxLen at hs
  have hz := size_toList s
  by_cases h0 : s.size = 0
  · have hl : s.toList = [] := by rw [toListE]; exact List.eq_nil_of_length_eq_zero (by rw [hz]; exact h0)
    have hf : fitsB s = false := by simp [fitsB, h0]
    have HF := Lib.hid hf
    clear hz h0 hf
    go_enter Try.func48, Try.ntmps48
    go_wp2_with fail
    all_goals (go_ret; refine ⟨ret_bool ?_, rfl⟩; rw [HF.out]; try simp [*])
  · have hl : ¬ s.toList = [] := fun e => h0 (by rw [← hz, ← toListE, e]; rfl)
    have hl2 : (!s.toList.isEmpty) = true := by simpa using hl
    have hf : fitsB s = decide ((s.size : Int) ≤ 32) := by
      have h32 : ((s.size : Int) ≤ 32) ↔ s.size ≤ 32 := by omega
      rw [Bool.eq_iff_iff, decide_eq_true_iff, h32, fitsB_iff]; omega
    have HF := Lib.hid hf
    clear hz h0 hf
    go_enter Try.func48, Try.ntmps48
    go_wp2_with fail
    all_goals (go_ret; refine ⟨?_, rfl⟩; rw [HF.out]; try simp [*])
theorem lex_IsName (s : ByteArray) (hs : s.size ≤ maxLen) (w : World) : Calls Try.prog 24 #[.string s] w fun e w' => e = .returned (.bool (isName s)) ∧ w' = w := by
  have h1 := Lib.hid (lex_fits s hs)
  have h3 := Lib.hid (lex_run 51 insideB lex_inside (by intro args w; go_simp) s hs)
  unfold maxLen at hs
  have hrl := Lib.hid (runLen_iff insideB s.data.toList)
  cases hf : fitsB s with
  | false =>
    have HF := Lib.hid hf; clear hf
    go_enter Try.func24, Try.ntmps24
    go_wp2_with fail
    refine (h1.out _).mono ?_
    rw [HF.out]
    rintro e w' ⟨rfl, rfl⟩
    go_wp2_with fail
    go_ret
    exact ⟨by simp [isName, HF.out], rfl⟩
  | true =>
    have hpos := (fitsB_iff s).1 hf
    obtain ⟨hp0, hp1⟩ := hpos
    have hg : s.data.toList.getD 0 0 = s[0] := by
      have hx : s.data.toList[0]? = some s[0] := List.getElem?_eq_getElem hp0
      rw [List.getD_eq_getElem?_getD, hx]; rfl
    have HG := Lib.hid hg; clear hg
    have h2 := Lib.hid (lex_small s[0])
    have HF := Lib.hid hf; clear hf
    cases hq : smallB s[0] with
    | false =>
      have HQ := Lib.hid hq; clear hq
      go_enter Try.func24, Try.ntmps24
      go_wp2_with fail
      refine (h1.out _).mono ?_
      rw [HF.out]
      rintro e w' ⟨rfl, rfl⟩
      go_wp2_with fail
      refine (h2.out _).mono ?_
      rw [HQ.out]
      rintro e w' ⟨rfl, rfl⟩
      go_wp2_with fail
      go_ret
      exact ⟨by simp only [isName, HG.out, HQ.out]; simp, rfl⟩
    | true =>
      have HQ := Lib.hid hq; clear hq
      go_enter Try.func24, Try.ntmps24
      go_wp2_with fail
      refine (h1.out _).mono ?_
      rw [HF.out]
      rintro e w' ⟨rfl, rfl⟩
      go_wp2_with fail
      refine (h2.out _).mono ?_
      rw [HQ.out]
      rintro e w' ⟨rfl, rfl⟩
      go_wp2_with fail
      refine (h3.out _).mono ?_
      rintro e w' ⟨rfl, rfl⟩
      go_wp2_with fail
      go_ret
      refine ⟨ret_bool ?_, rfl⟩
      simp only [isName, HG.out, HQ.out, HF.out, Bool.true_and, ← hrl.out, size_toList]
      simp
      try omega
def b0 (u : ByteArray) : UInt8 := u.data.toList.getD 0 0
theorem stringslite_Index_one (s u : ByteArray) (hu : u.size = 1) (hne : (u.toList == s.toList) = false) (w : World) :
    Calls Try.prog 83 #[.string s, .string u] w fun e w' => e = .returned (.int .i64 (Lib.indexByte s.data.toList (b0 u))) ∧ w' = w := by
  have h0 : 0 < u.size := by omega
  have hg : b0 u = u[0] := by
    unfold b0
    have hx : u.data.toList[0]? = some u[0] := List.getElem?_eq_getElem h0
    rw [List.getD_eq_getElem?_getD, hx]; rfl
  rw [hg]
  have h1 := Lib.hid (stringslite_IndexByte s u[0])
  have hb1 : ((u.size : Int) == 0) = false := by rw [beq_eq_false_iff_ne]; omega
  have hb2 : ((u.size : Int) == 1) = true := by rw [beq_iff_eq]; omega
  clear hg hu
  go_enter Try.func83, Try.ntmps83
  go_wp2_with fail
  refine (h1.out _).mono ?_
  rintro e w' ⟨rfl, rfl⟩
  go_wp2_with fail
  go_ret
  exact ⟨rfl, rfl⟩
theorem strings_Index_one (s u : ByteArray) (hu : u.size = 1) (hne : (u.toList == s.toList) = false) (w : World) :
    Calls Try.prog 73 #[.string s, .string u] w fun e w' => e = .returned (.int .i64 (Lib.indexByte s.data.toList (b0 u))) ∧ w' = w := by
  have h1 := Lib.hid (stringslite_Index_one s u hu hne)
  clear hu hne
  go_enter Try.func73, Try.ntmps73
  go_wp2_with fail
  refine (h1.out _).mono ?_
  rintro e w' ⟨rfl, rfl⟩
  go_wp2_with fail
  go_ret
  exact ⟨rfl, rfl⟩
theorem strings_Contains_one (s u : ByteArray) (hu : u.size = 1) (hne : (u.toList == s.toList) = false) (w : World) :
    Calls Try.prog 53 #[.string s, .string u] w fun e w' => e = .returned (.bool (decide (0 ≤ Lib.indexByte s.data.toList (b0 u)))) ∧ w' = w := by
  have h1 := Lib.hid (strings_Index_one s u hu hne)
  clear hu hne
  go_enter Try.func53, Try.ntmps53
  go_wp2_with fail
  refine (h1.out _).mono ?_
  rintro e w' ⟨rfl, rfl⟩
  go_wp2_with fail
  go_ret
  exact ⟨rfl, rfl⟩
theorem single_iff (l : List UInt8) (h : l.length = 1) : (0 ≤ Lib.indexByte [44, 59, 33] (l.getD 0 0)) ↔ (l == [44] || l == [59] || l == [33]) = true := by
  match l, h with
  | [c], _ =>
    rw [indexByte_iff]
    show List.contains [44, 59, 33] c = true ↔ _
    simp only [List.contains_cons, List.contains_nil, Bool.or_eq_true, Bool.or_false, beq_iff_eq, List.cons.injEq, and_true, or_assoc]
theorem lex_IsSym (s : ByteArray) (hs : s.size ≤ maxLen) (w : World) : Calls Try.prog 25 #[.string s] w fun e w' => e = .returned (.bool (isSym s)) ∧ w' = w := by
  have h1 := Lib.hid (lex_fits s hs)
  have h3 := Lib.hid (lex_run 52 signB lex_sign (by intro args w; go_simp) s hs)
  unfold maxLen at hs
  have hrl := Lib.hid (runLen_iff signB s.data.toList)
  have hz := Lib.hid (size_toList s)
  cases hf : fitsB s with
  | false =>
    have HF := Lib.hid hf; clear hf
    go_enter Try.func25, Try.ntmps25
    go_wp2_with fail
    refine (h1.out _).mono ?_
    rw [HF.out]
    rintro e w' ⟨rfl, rfl⟩
    go_wp2_with fail
    go_ret
    exact ⟨by simp [isSym, HF.out], rfl⟩
  | true =>
    have HF := Lib.hid hf; clear hf
    by_cases hr : ((runLen signB s.data.toList : Nat) : Int) = s.size
    · have hrb : (((runLen signB s.data.toList : Nat) : Int) == (s.size : Int)) = true := by rw [beq_iff_eq]; exact hr
      have HR := Lib.hid hr; clear hr
      go_enter Try.func25, Try.ntmps25
      go_wp2_with fail
      refine (h1.out _).mono ?_
      rw [HF.out]
      rintro e w' ⟨rfl, rfl⟩
      go_wp2_with fail
      refine (h3.out _).mono ?_
      rintro e w' ⟨rfl, rfl⟩
      go_wp2_with fail
      go_ret
      refine ⟨ret_bool ?_, rfl⟩
      have ha : s.data.toList.all signB = true := hrl.out.1 (by have := HR.out; have := hz.out; omega)
      simp [isSym, HF.out, ha]
    · have hrb : (((runLen signB s.data.toList : Nat) : Int) == (s.size : Int)) = false := by rw [beq_eq_false_iff_ne]; exact hr
      have ha : s.data.toList.all signB = false := by
        cases h : s.data.toList.all signB with
        | false => rfl
        | true => exact absurd (by have := hrl.out.2 h; have := hz.out; omega) hr
      have HA := Lib.hid ha; clear ha hr
      by_cases h1s : s.size = 1
      · have hb1 : ((s.size : Int) == 1) = true := by rw [beq_iff_eq]; omega
        have hne : (s.toList == (⟨#[44, 59, 33]⟩ : ByteArray).toList) = false := by
          rw [beq_eq_false_iff_ne]
          intro e
          have := congrArg List.length e
          rw [toListE, toListE, size_toList, size_toList, h1s] at this
          exact absurd this (by decide)
        have h4 := Lib.hid (strings_Contains_one ⟨#[44, 59, 33]⟩ s h1s hne)
        have H1 := Lib.hid h1s; clear h1s hne
        go_enter Try.func25, Try.ntmps25
        go_wp2_with fail
        refine (h1.out _).mono ?_
        rw [HF.out]
        rintro e w' ⟨rfl, rfl⟩
        go_wp2_with fail
        refine (h3.out _).mono ?_
        rintro e w' ⟨rfl, rfl⟩
        go_wp2_with fail
        refine (h4.out _).mono ?_
        rintro e w' ⟨rfl, rfl⟩
        go_wp2_with fail
        go_ret
        refine ⟨ret_bool ?_, rfl⟩
        have hs1 := single_iff s.data.toList (by rw [hz.out]; exact H1.out)
        simp only [isSym, HF.out, HA.out, Bool.true_and, Bool.false_or]
        rw [← hs1, decide_eq_true_iff]
        rfl
      · have hb1 : ((s.size : Int) == 1) = false := by rw [beq_eq_false_iff_ne]; omega
        have H1 := Lib.hid h1s; clear h1s
        go_enter Try.func25, Try.ntmps25
        go_wp2_with fail
        refine (h1.out _).mono ?_
        rw [HF.out]
        rintro e w' ⟨rfl, rfl⟩
        go_wp2_with fail
        refine (h3.out _).mono ?_
        rintro e w' ⟨rfl, rfl⟩
        go_wp2_with fail
        go_ret
        refine ⟨ret_bool ?_, rfl⟩
        have hn : ∀ c : UInt8, (s.data.toList == [c]) = false := fun c => by
          rw [beq_eq_false_iff_ne]
          intro e
          have := congrArg List.length e
          rw [size_toList] at this
          exact H1.out (by simpa using this)
        simp only [isSym, HF.out, HA.out, hn]
        simp
end Go.Proofs.Ytbdappbmlnpogaa
