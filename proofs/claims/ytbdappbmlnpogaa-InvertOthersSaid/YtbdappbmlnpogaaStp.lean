/- Package store on plain data: what variables stand for, steps at the head, all steps. -/
import Derived.Test.YtbdappbmlnpogaaSplit
namespace Go.Proofs.Ytbdappbmlnpogaa
/-- What is known of a variable. -/
structure Inf where
  lv : Int
  bd : Bool
  vl : Tm
def Inf.zero : Inf := ⟨0, false, Tm.zero⟩
instance : Inhabited Inf := ⟨Inf.zero⟩
structure St where
  V : List Inf
  T : List Int
namespace St
def top0 (n : Int) : Int := if n < 0 then 0 else n
def info (S : St) (x : Int) : Inf × Bool := if x < 0 ∨ (S.V.length : Int) ≤ x then (Inf.zero, false) else (S.V.getD x.toNat Inf.zero, true)
def fresh (S : St) (level : Int) : St := ⟨S.V ++ [⟨top0 level, false, Tm.zero⟩], S.T⟩
def bind (S : St) (x : Int) (t : Tm) : St × Int :=
  if (S.info x).2 = false ∨ (S.info x).1.bd = true ∨ t.valid = false ∨ 0 < t.loose then (S, 1)
  else (⟨S.V.set x.toNat ⟨(S.info x).1.lv, true, t⟩, S.T ++ [x]⟩, 0)
def value (S : St) (t : Tm) : Tm × Bool := ((S.info t.n).1.vl, (t.k == 4) && (S.info t.n).2 && (S.info t.n).1.bd)
/-- One step at the head: the term, is it one, the error. -/
def step (S : St) (t : Tm) : Tm × Bool × Int :=
  if (S.value t).2 then ((S.value t).1, true, 0)
  else if t.k ≠ 6 then (t, false, 0)
  else if (S.value (t.l.getD 0 Tm.zero)).2 then (Tm.apply (S.value (t.l.getD 0 Tm.zero)).1 (t.l.drop 1), true, 0)
  else if (t.l.getD 0 Tm.zero).k ≠ 5 then (t, false, 0)
  else (Tm.apply (Tm.contractV ((t.l.getD 0 Tm.zero).l.getD 0 Tm.zero) (t.l.getD 1 Tm.zero)).1 (t.l.drop 2), true, (Tm.contractV ((t.l.getD 0 Tm.zero).l.getD 0 Tm.zero) (t.l.getD 1 Tm.zero)).2)
/-- All steps at the head: the term, the error, the fuel that is left. -/
def headF (S : St) : Nat → Tm → Int → Tm × Int × Int
  | 0, t, f => if (S.step t).2.1 = false then (t, 0, f) else (Tm.zero, 80, f)
  | m + 1, t, f => if (S.step t).2.1 = false then (t, 0, f) else if (S.step t).2.2 ≠ 0 ∨ f ≤ 0 then (Tm.zero, 80, f) else headF S m (S.step t).1 (f - 1)
def head (S : St) (t : Tm) (f : Int) : Tm × Int × Int := headF S f.toNat t f
theorem head_eq (S : St) (t : Tm) (f : Int) : S.head t f = if (S.step t).2.1 = false then (t, 0, f) else if (S.step t).2.2 ≠ 0 ∨ f ≤ 0 then (Tm.zero, 80, f) else S.head (S.step t).1 (f - 1) := by
  unfold head
  by_cases hf : f ≤ 0
  · rw [show f.toNat = 0 by omega, headF]
    split
    · rfl
    · rw [if_pos (.inr hf)]
  · obtain ⟨m, hm⟩ : ∃ m, f.toNat = m + 1 := ⟨f.toNat - 1, by omega⟩
    rw [hm, headF, show (f - 1).toNat = m by omega]
/-- Something for all terms of a list, one after the other, behind those that are done. -/
def mapF (g : Tm → Int → Tm × Int × Int) : List Tm → List Tm → Int → List Tm × Int × Int
  | acc, [], f => (acc, 0, f)
  | acc, t :: ts, f => if (g t f).2.1 ≠ 0 then ([], (g t f).2.1, (g t f).2.2) else mapF g (acc ++ [(g t f).1]) ts (g t f).2.2
/-- The kids that are done, behind those that are left as they are. -/
def kidsF (g : Tm → Int → Tm × Int × Int) (t : Tm) (f : Int) : List Tm × Int × Int :=
  if t.k = 6 then mapF g (t.l.take 1) (t.l.drop 1) f else mapF g [] t.l f
theorem kidsF_mk (g : Tm → Int → Tm × Int × Int) (k : Int) (s : ByteArray) (n : Int) (l : List Tm) (f : Int) : kidsF g (.mk k s n l) f = if k = 6 then mapF g (l.take 1) (l.drop 1) f else mapF g [] l f := rfl
def fullF (S : St) : Nat → Tm → Int → Tm × Int × Int
  | 0, _, f => (Tm.zero, 80, f)
  | m + 1, t, f =>
    if f ≤ 0 then (Tm.zero, 80, f)
    else if (S.head t (f - 1)).2.1 ≠ 0 then (Tm.zero, (S.head t (f - 1)).2.1, (S.head t (f - 1)).2.2)
    else if (kidsF (fullF S m) (S.head t (f - 1)).1 (S.head t (f - 1)).2.2).2.1 ≠ 0 then (Tm.zero, (kidsF (fullF S m) (S.head t (f - 1)).1 (S.head t (f - 1)).2.2).2)
    else (.mk (S.head t (f - 1)).1.k (S.head t (f - 1)).1.s (S.head t (f - 1)).1.n (kidsF (fullF S m) (S.head t (f - 1)).1 (S.head t (f - 1)).2.2).1, (kidsF (fullF S m) (S.head t (f - 1)).1 (S.head t (f - 1)).2.2).2)
def full (S : St) (t : Tm) (f : Int) : Tm × Int × Int := fullF S f.toNat t f
def runV (g : Tm → Int → Tm × Int × Int) (t : Tm) (f : Int) : Tm × Int × Int :=
  if t.valid = false then (Tm.zero, 0, 1) else if (g t f).2.1 ≠ 0 then (Tm.zero, 0, (g t f).2.1) else ((g t f).1, (g t f).2.2, 0)
/-- Head: the term, the fuel that is left, the error. -/
def Head (S : St) (t : Tm) (f : Int) : Tm × Int × Int := runV S.head t f
def Full (S : St) (t : Tm) (f : Int) : Tm × Int × Int :=
  if (runV S.full t f).2.2 ≠ 0 then (Tm.zero, 0, (runV S.full t f).2.2) else ((runV S.full t f).1.shortV, (runV S.full t f).2.1, 0)

/-! ### sizes -/
/-- What variables stand for is valid, and of bounded size and numbers. -/
def Ok (S : St) (M : Nat) (B : Int) : Prop := 4097 ≤ M ∧ ∀ i ∈ S.V, i.bd = true → Tm.Fit M B i.vl
theorem info_mem {S : St} {x : Int} (h : (S.info x).2 = true) : (S.info x).1 ∈ S.V := by
  unfold info at h ⊢
  split at h
  · simp at h
  · rename_i hx
    rw [if_neg hx]
    have hl : x.toNat < S.V.length := by omega
    simp only [List.getD_eq_getElem?_getD, List.getElem?_eq_getElem hl]
    exact List.getElem_mem hl
theorem value_fit {S : St} {M : Nat} {B : Int} (h : S.Ok M B) {t : Tm} (hv : (S.value t).2 = true) : Tm.Fit M B (S.value t).1 := by
  unfold value at hv ⊢
  simp only [Bool.and_eq_true] at hv
  exact h.2 _ (info_mem hv.1.2) hv.2
open Tm in
theorem step_fit {S : St} {M : Nat} {B : Int} (h : S.Ok M B) {t : Tm} (ht : Fit t.size B t) (hz : t.size ≤ SB) (hB : B + SB ≤ far) (h1 : (S.step t).2.1 = true) (h2 : (S.step t).2.2 = 0) :
    Fit (t.size + M) (B + SB) (S.step t).1 := by
  have hM := h.1
  cases t with
  | mk k s n l =>
    unfold step at h1 h2 ⊢
    split
    · rename_i hv
      exact (value_fit h hv).mono (by omega) (by omega)
    · rename_i hv
      rw [if_neg hv] at h1 h2
      split at h1
      · simp at h1
      · rename_i h6
        simp only [k_mk, ne_eq, Decidable.not_not] at h6
        subst h6
        simp only [k_mk, l_mk, ne_eq, not_true_eq_false, ↓reduceIte] at h1 h2 ⊢
        obtain ⟨-, -, hl, -⟩ := ok1_app.1 ((valid_iff ..).1 ht.v).1
        have hsz := ht.s
        rw [size_mk] at hsz hz ⊢
        have hm := fun u hu => (ht.mem (u := u) hu)
        cases l with
        | nil => simp at hl
        | cons x xs =>
          simp only [List.getD_cons_zero, List.drop_succ_cons, List.drop_zero, sizeL_cons] at h1 h2 hsz hz ⊢
          split
          · rename_i hv
            have hf := value_fit h hv
            have hs := (apply_size (S.value x).1 xs).1
            have := hf.s
            have := size_pos x
            exact ⟨valid_apply hf.v fun u hu => (hm u (by simp [hu])).v, by show (apply (S.value x).1 xs).size ≤ _; omega, bnd_mono (by omega) _ (bnd_apply hf.b fun u hu => (hm u (by simp [hu])).b)⟩
          · rename_i hv
            rw [if_neg hv] at h1 h2
            split at h1
            · simp at h1
            · rename_i h5
              rw [if_neg h5] at h2
              rw [if_neg h5]
              simp only [ne_eq, Decidable.not_not] at h5
              cases xs with
              | nil => simp at hl
              | cons y ys =>
                simp only [List.getD_cons_succ, List.getD_cons_zero, List.drop_succ_cons, List.drop_zero, sizeL_cons] at h1 h2 hsz hz ⊢
                have hx := hm x (by simp)
                have hy := hm y (by simp)
                cases x with
                | mk xk xq xn xl =>
                  simp only [k_mk, l_mk] at h5 h2 ⊢
                  subst h5
                  obtain ⟨-, -, h1l⟩ := ok1_lam.1 ((valid_iff ..).1 hx.v).1
                  obtain ⟨b, rfl⟩ := List.length_eq_one_iff.1 h1l
                  simp only [List.getD_cons_zero] at h2 ⊢
                  have hb := hx.mem (u := b) (by simp)
                  have hc : contractV b y = contract b y := by unfold contractV; rw [if_pos ⟨hb.v, hy.v⟩]
                  rw [hc] at h2 ⊢
                  obtain ⟨c1, c2⟩ := contract_size hb.v hy.v h2
                  rw [c2]
                  have hsb : (Tm.mk 5 xq xn [b]).size = 1 + b.size := by rw [size_mk]; simp
                  have hb2 : Fit SB B b := ⟨hb.v, by rw [hsb] at hz; omega, hb.b⟩
                  have hy2 : Fit SB B y := ⟨hy.v, by omega, hy.b⟩
                  obtain ⟨c3, c4⟩ := subst_fit hb2 hy2 hB
                  have hs := (apply_size (b.subst 0 y) ys).1
                  have := size_pos y
                  exact ⟨valid_apply c3 fun u hu => (hm u (by simp [hu])).v, by show (apply (b.subst 0 y) ys).size ≤ _; omega, bnd_apply c4 fun u hu => bnd_mono (by omega) _ (hm u (by simp [hu])).b⟩
open Tm in
theorem head_fit (S : St) (M : Nat) : ∀ (n : Nat) (B : Int) (t : Tm) (f : Int), f.toNat = n → S.Ok M B → t.valid = true → t.bnd B = true → t.size + n * M ≤ SB → B + n * SB ≤ far → (S.head t f).2.1 = 0 →
    (S.head t f).1.valid = true ∧ (S.head t f).2.2 ≤ f ∧ (0 ≤ f → 0 ≤ (S.head t f).2.2) ∧ (S.head t f).1.size + (S.head t f).2.2.toNat * M ≤ t.size + n * M ∧ (S.head t f).1.bnd (B + (n - (S.head t f).2.2.toNat : Nat) * SB) = true := by
  intro n
  induction n with
  | zero =>
    intro B t f hf hS hv hb hs hB h0
    rw [head_eq] at h0 ⊢
    split
    · simp only []
      exact ⟨hv, Int.le_refl _, id, by rw [hf]; exact Nat.le_refl _, by simpa using hb⟩
    · rename_i h1
      rw [if_neg h1, if_pos (.inr (by omega))] at h0
      simp at h0
  | succ n ih =>
    intro B t f hf hS hv hb hs hB h0
    rw [head_eq] at h0 ⊢
    rw [Nat.succ_mul] at hs ⊢
    have hB' : B + (n * SB + SB : Nat) ≤ far := by rw [← Nat.succ_mul]; exact_mod_cast hB
    split
    · simp only []
      rw [hf, Nat.succ_mul]
      exact ⟨hv, Int.le_refl _, id, Nat.le_refl _, bnd_mono (by simp) _ hb⟩
    · rename_i h1
      rw [if_neg h1] at h0
      split at h0
      · simp at h0
      · rename_i h2
        rw [if_neg h2]
        have hh1 : (S.step t).2.1 = true := by simpa using h1
        have hh2 : (S.step t).2.2 = 0 ∧ 0 < f := by
          constructor
          · exact Decidable.byContradiction fun h => h2 (.inl h)
          · exact Decidable.byContradiction fun h => h2 (.inr (by omega))
        have hst := step_fit hS (t := t) ⟨hv, Nat.le_refl _, hb⟩ (by omega) (by omega) hh1 hh2.1
        have hst1 := hst.s
        have hS' : S.Ok M (B + SB) := ⟨hS.1, fun i hi hbd => (hS.2 i hi hbd).mono (Nat.le_refl _) (by omega)⟩
        obtain ⟨r1, r2, r3, r4, r5⟩ := ih (B + SB) (S.step t).1 (f - 1) (by omega) hS' hst.v hst.b (by omega) (by push_cast at hB' ⊢; omega) h0
        refine ⟨r1, by omega, fun _ => r3 (by omega), by omega, ?_⟩
        have e : B + SB + ((n - (S.head (S.step t).1 (f - 1)).2.2.toNat : Nat) : Int) * SB = B + ((n + 1 - (S.head (S.step t).1 (f - 1)).2.2.toNat : Nat) : Int) * SB := by
          have : (S.head (S.step t).1 (f - 1)).2.2.toNat ≤ n := by omega
          rw [show n + 1 - (S.head (S.step t).1 (f - 1)).2.2.toNat = (n - (S.head (S.step t).1 (f - 1)).2.2.toNat) + 1 by omega]
          push_cast
          rw [Int.add_mul]
          omega
        rw [← e]
        exact r5
/-- What is asked of a function that goes through terms. -/
def GoodF (M : Nat) (B : Int) (n : Nat) (g : Tm → Int → Tm × Int × Int) : Prop :=
  ∀ (t : Tm) (f : Int), f.toNat ≤ n → t.valid = true → t.bnd B = true → t.size + f.toNat * M ≤ SB → (g t f).2.1 = 0 →
    (g t f).1.valid = true ∧ (g t f).2.2 ≤ f ∧ 0 ≤ (g t f).2.2 ∧ (g t f).1.size + (g t f).2.2.toNat * M ≤ t.size + f.toNat * M ∧ (g t f).1.bnd (B + f.toNat * SB) = true
open Tm in
theorem mapF_fit {M : Nat} {B : Int} {n : Nat} {g : Tm → Int → Tm × Int × Int} (hg : GoodF M B n g) : ∀ (ts acc : List Tm) (f : Int), f.toNat ≤ n → 0 ≤ f → (∀ u ∈ ts, u.valid = true ∧ u.bnd B = true) → sizeL ts + f.toNat * M ≤ SB → (mapF g acc ts f).2.1 = 0 →
    ∃ res, (mapF g acc ts f).1 = acc ++ res ∧ res.length = ts.length ∧ (∀ u ∈ res, u.valid = true ∧ u.bnd (B + f.toNat * SB) = true) ∧ (mapF g acc ts f).2.2 ≤ f ∧ 0 ≤ (mapF g acc ts f).2.2 ∧ sizeL res + (mapF g acc ts f).2.2.toNat * M ≤ sizeL ts + f.toNat * M := by
  intro ts
  induction ts with
  | nil =>
    intro acc f _ h0 _ _ _
    exact ⟨[], by simp [mapF], rfl, by simp, by simp [mapF], by simpa [mapF] using h0, by simp [mapF]⟩
  | cons x xs ih =>
    intro acc f hf h0 hu hs he
    rw [mapF] at he ⊢
    split at he
    · rename_i h1
      simp only [ne_eq] at h1
      exact absurd he h1
    · rename_i h1
      rw [if_neg h1]
      simp only [ne_eq, Decidable.not_not] at h1
      rw [sizeL_cons] at hs ⊢
      obtain ⟨a1, a2, a3, a4, a5⟩ := hg x f hf (hu x (by simp)).1 (hu x (by simp)).2 (by omega) h1
      have hle : (g x f).2.2.toNat ≤ f.toNat := by omega
      have hx := size_pos (g x f).1
      obtain ⟨res, b1, b2, b3, b4, b5, b6⟩ := ih (acc ++ [(g x f).1]) (g x f).2.2 (by omega) a3 (fun u h => hu u (by simp [h])) (by omega) he
      have hmm : ((g x f).2.2.toNat : Int) * SB ≤ f.toNat * SB := Int.mul_le_mul_of_nonneg_right (by omega) (by omega)
      refine ⟨(g x f).1 :: res, by rw [b1]; simp, by simp [b2], fun u hu' => ?_, by omega, b5, by rw [sizeL_cons]; omega⟩
      rcases List.mem_cons.1 hu' with rfl | h
      · exact ⟨a1, a5⟩
      · exact ⟨(b3 u h).1, bnd_mono (by omega) _ (b3 u h).2⟩
theorem Ok.mono {S : St} {M : Nat} {B B' : Int} (h : S.Ok M B) (hB : B ≤ B') : S.Ok M B' := ⟨h.1, fun i hi hb => (h.2 i hi hb).mono (Nat.le_refl _) hB⟩
/-- What head gives, in one. -/
structure HeadOk (S : St) (M : Nat) (B : Int) (t : Tm) (f : Int) : Prop where
  v : (S.head t f).1.valid = true
  le : (S.head t f).2.2 ≤ f
  nn : 0 ≤ f → 0 ≤ (S.head t f).2.2
  sz : (S.head t f).1.size + (S.head t f).2.2.toNat * M ≤ t.size + f.toNat * M
  b : (S.head t f).1.bnd (B + (f.toNat - (S.head t f).2.2.toNat : Nat) * SB) = true
open Tm in
theorem head_ok {S : St} {M : Nat} {B : Int} {t : Tm} {f : Int} (hS : S.Ok M B) (hv : t.valid = true) (hb : t.bnd B = true) (hs : t.size + f.toNat * M ≤ SB) (hB : B + f.toNat * SB ≤ far) (h0 : (S.head t f).2.1 = 0) : HeadOk S M B t f := by
  obtain ⟨a1, a2, a3, a4, a5⟩ := head_fit S M f.toNat B t f rfl hS hv hb hs hB h0
  exact ⟨a1, a2, a3, a4, a5⟩
theorem toNat_sub_mul (a b : Nat) (h : b ≤ a) (c : Nat) : ((a - b : Nat) : Int) * c + b * c = a * c := by
  rw [← Int.add_mul]
  congr 1
  omega
open Tm in
/-- What is made of a head and of its kids. -/
theorem rebuild_fit {k : Int} {s : ByteArray} {n : Int} {l out : List Tm} {B : Int} (hv : (Tm.mk k s n l).valid = true) (hb : (Tm.mk k s n l).bnd B = true) {B' : Int} (hB : B ≤ B') {res : List Tm} (hr : ∀ u ∈ res, u.valid = true ∧ u.bnd B' = true)
    (ho : (k = 6 ∧ out = l.take 1 ++ res ∧ res.length = (l.drop 1).length) ∨ (k ≠ 6 ∧ out = res ∧ res.length = l.length)) : (Tm.mk k s n out).valid = true ∧ (Tm.mk k s n out).bnd B' = true := by
  obtain ⟨h1, h2⟩ := (valid_iff ..).1 hv
  obtain ⟨h3, h4⟩ := (bnd_iff ..).1 hb
  rcases ho with ⟨rfl, rfl, hl⟩ | ⟨h6, rfl, hl⟩
  · obtain ⟨e1, e2, e3, e4⟩ := ok1_app.1 h1
    cases l with
    | nil => simp at e3
    | cons x xs =>
      simp only [List.take_succ_cons, List.take_zero, List.drop_succ_cons, List.drop_zero, List.cons_append, List.nil_append, List.length_cons, List.getD_cons_zero] at hl e3 e4 ⊢
      refine ⟨(valid_iff ..).2 ⟨ok1_app.2 ⟨e1, e2, by simp; omega, by simpa using e4⟩, fun u hu => ?_⟩, (bnd_iff ..).2 ⟨by simp, fun u hu => ?_⟩⟩
      · rcases List.mem_cons.1 hu with rfl | hu
        · exact h2 _ (by simp)
        · exact (hr u hu).1
      · rcases List.mem_cons.1 hu with rfl | hu
        · exact bnd_mono hB _ (h4 _ (by simp))
        · exact (hr u hu).2
  · by_cases h5 : k = 5
    · subst h5
      obtain ⟨e1, e2, e3⟩ := ok1_lam.1 h1
      exact ⟨(valid_iff ..).2 ⟨ok1_lam.2 ⟨e1, e2, by omega⟩, fun u hu => (hr u hu).1⟩, (bnd_iff ..).2 ⟨by simp, fun u hu => (hr u hu).2⟩⟩
    · have hl0 := ok1_leaf h1 h5 h6
      subst hl0
      have : out = [] := List.eq_nil_of_length_eq_zero hl
      subst this
      exact ⟨hv, bnd_mono hB _ hb⟩
open Tm in
theorem kids_fit {M : Nat} {B B' : Int} {k : Int} {s : ByteArray} {n : Int} {l : List Tm} {f : Int} {g : Tm → Int → Tm × Int × Int} {N : Nat} (hg : GoodF M B N g) (hf : f.toNat ≤ N) (h0 : 0 ≤ f) (hv : (Tm.mk k s n l).valid = true) (hb : (Tm.mk k s n l).bnd B = true) (hs : (Tm.mk k s n l).size + f.toNat * M ≤ SB) (hB : B + f.toNat * SB = B') (he : (kidsF g (.mk k s n l) f).2.1 = 0) :
    (Tm.mk k s n (kidsF g (.mk k s n l) f).1).valid = true ∧ (kidsF g (.mk k s n l) f).2.2 ≤ f ∧ 0 ≤ (kidsF g (.mk k s n l) f).2.2 ∧ (Tm.mk k s n (kidsF g (.mk k s n l) f).1).size + (kidsF g (.mk k s n l) f).2.2.toNat * M ≤ (Tm.mk k s n l).size + f.toNat * M ∧ (Tm.mk k s n (kidsF g (.mk k s n l) f).1).bnd B' = true := by
  obtain ⟨-, h2⟩ := (valid_iff ..).1 hv
  obtain ⟨-, h4⟩ := (bnd_iff ..).1 hb
  rw [size_mk] at hs
  have hBB : B ≤ B' := by
    have : (0 : Int) ≤ f.toNat * SB := Int.mul_nonneg (by omega) (by omega)
    omega
  rw [kidsF_mk] at he ⊢
  by_cases h6 : k = 6
  · rw [if_pos h6] at he ⊢
    have hsz : sizeL l = sizeL (l.take 1) + sizeL (l.drop 1) := by rw [← sizeL_append, List.take_append_drop]
    obtain ⟨res, b1, b2, b3, b4, b5, b6⟩ := mapF_fit hg (l.drop 1) (l.take 1) f hf h0 (fun u hu => ⟨h2 u (List.mem_of_mem_drop hu), h4 u (List.mem_of_mem_drop hu)⟩) (by omega) he
    obtain ⟨r1, r2⟩ := rebuild_fit hv hb hBB (res := res) (by rw [← hB]; exact b3) (.inl ⟨h6, b1, b2⟩)
    refine ⟨r1, b4, b5, ?_, r2⟩
    rw [size_mk, size_mk]
    rw [b1, sizeL_append]
    omega
  · rw [if_neg h6] at he ⊢
    obtain ⟨res, b1, b2, b3, b4, b5, b6⟩ := mapF_fit hg l [] f hf h0 (fun u hu => ⟨h2 u hu, h4 u hu⟩) (by omega) he
    rw [List.nil_append] at b1
    obtain ⟨r1, r2⟩ := rebuild_fit hv hb hBB (res := res) (by rw [← hB]; exact b3) (.inr ⟨h6, b1, b2⟩)
    refine ⟨r1, b4, b5, ?_, r2⟩
    rw [size_mk, size_mk]
    rw [b1]
    omega
open Tm in
theorem full_fit (S : St) (M : Nat) : ∀ (m : Nat) (B : Int) (n : Nat), n ≤ m → S.Ok M B → B + n * SB ≤ far → GoodF M B n (fullF S m) := by
  intro m
  induction m with
  | zero =>
    intro B n hn hS hB t f hf hv hb hs h0
    rw [fullF] at h0
    simp at h0
  | succ m ih =>
    intro B n hn hS hB t f hf hv hb hs h0
    rw [fullF] at h0 ⊢
    split at h0
    · simp at h0
    · rename_i h1
      rw [if_neg h1]
      split at h0
      · rename_i h2; exact absurd h0 h2
      · rename_i h2
        rw [if_neg h2]
        simp only [ne_eq, Decidable.not_not] at h2
        split at h0
        · rename_i h3; exact absurd h0 h3
        · rename_i h3
          rw [if_neg h3]
          simp only [ne_eq, Decidable.not_not] at h3
          have hfn : f.toNat = (f - 1).toNat + 1 := by omega
          have hmn : (f.toNat : Int) * SB ≤ n * SB := Int.mul_le_mul_of_nonneg_right (by omega) (by omega)
          have hM1 : f.toNat * M = (f - 1).toNat * M + M := by rw [hfn, Nat.succ_mul]
          have hS1 : (f.toNat : Int) * SB = ((f - 1).toNat : Int) * SB + SB := by rw [hfn]; push_cast; rw [Int.add_mul]; omega
          have hS0 : (0 : Int) ≤ (SB : Int) := by omega
          have hd := head_ok hS hv hb (f := f - 1) (by omega) (by omega) h2
          have hdn := hd.nn (by omega)
          have hdl := hd.le
          have hds := hd.sz
          have hdb := hd.b
          have hdv := hd.v
          have hsub := toNat_sub_mul (f - 1).toNat (S.head t (f - 1)).2.2.toNat (by omega) SB
          have hB1 : (0 : Int) ≤ ((f - 1).toNat - (S.head t (f - 1)).2.2.toNat : Nat) * SB := Int.mul_nonneg (by omega) hS0
          generalize hhd : S.head t (f - 1) = hd' at *
          obtain ⟨⟨k, s, n', l⟩, e, f'⟩ := hd'
          simp only [k_mk, s_mk, n_mk] at *
          have hg := ih (B + ((f - 1).toNat - f'.toNat : Nat) * SB) f'.toNat (by omega) (hS.mono (by omega)) (by omega)
          obtain ⟨r1, r2, r3, r4, r5⟩ := kids_fit (B' := B + (f - 1).toNat * SB) hg (Nat.le_refl _) hdn hdv hdb (by omega) (by omega) h3
          exact ⟨r1, by omega, r3, by omega, bnd_mono (by omega) _ r5⟩
end St
end Go.Proofs.Ytbdappbmlnpogaa
