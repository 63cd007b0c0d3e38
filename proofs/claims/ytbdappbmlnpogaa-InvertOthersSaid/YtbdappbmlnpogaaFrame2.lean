/- What an inversion leaves alone, on plain data. What an inversion leaves alone, on plain data: variables that are neither asked for nor within. -/
import Derived.Test.YtbdappbmlnpogaaOthers
namespace Go.Proofs.Ytbdappbmlnpogaa
open Go Go.RowKit
set_option maxRecDepth 100000
namespace Tm
mutual
/-- All variables within are among A. -/
def vin (A : Int → Prop) : Tm → Prop | .mk k _ n l => (k = 4 → A n) ∧ vinL A l
def vinL (A : Int → Prop) : List Tm → Prop | [] => True | t :: ts => t.vin A ∧ vinL A ts
end
theorem vinL_iff (A : Int → Prop) (l : List Tm) : vinL A l ↔ ∀ t ∈ l, t.vin A := by
  induction l with
  | nil => rw [vinL]; simp
  | cons x xs ih => rw [vinL, ih]; simp
theorem vin_iff (A k s n l) : (mk k s n l).vin A ↔ (k = 4 → A n) ∧ ∀ t ∈ l, t.vin A := by rw [vin, vinL_iff]
variable {A : Int → Prop}
theorem vin_apply {f : Tm} {args : List Tm} (hf : f.vin A) (ha : ∀ t ∈ args, t.vin A) : (f.apply args).vin A := by
  unfold apply
  split
  · exact hf
  · split
    · rename_i h
      cases f with
      | mk k s n l =>
        rw [vin_iff] at hf ⊢
        refine ⟨by simp, fun t ht => ?_⟩
        rcases List.mem_append.1 ht with ht | ht
        · exact hf.2 t ht
        · exact ha t ht
    · rw [vin_iff]
      refine ⟨by simp, fun t ht => ?_⟩
      rcases List.mem_cons.1 ht with rfl | ht
      · exact hf
      · exact ha t ht
theorem vin_walk (f : Tm → Int → Tm) (t : Tm) : ∀ d, t.vin A → (∀ p ∈ t.leaves d, p.1.vin A → (f p.1 p.2).vin A) → (t.walk f d).vin A := by
  induction t using ind with
  | h k s n l ih =>
    intro d hv hl
    rw [walk_mk]
    rw [leaves] at hl
    obtain ⟨h1, h2⟩ := (vin_iff ..).1 hv
    split
    · rename_i hk
      rw [if_pos hk] at hl
      have hout : ∀ u ∈ walkL f l (d + if k = 5 then 1 else 0), u.vin A := by
        rw [walkL_map]
        intro u hu
        obtain ⟨x, hx, rfl⟩ := List.mem_map.1 hu
        exact ih x hx _ (h2 x hx) (fun p hp => hl p (leaves_of_mem hx _ hp))
      generalize walkL f l (d + if k = 5 then 1 else 0) = out at hout
      unfold remake
      split
      · rename_i h
        exact vin_apply (hout _ (getD0_mem (by omega))) (fun t ht => hout t (List.mem_of_mem_drop ht))
      · rw [vin_iff]
        exact ⟨fun e => by omega, hout⟩
    · rename_i hk
      rw [if_neg hk] at hl
      exact hl (mk k s n l, d) (List.mem_singleton.2 rfl) hv
theorem vin_moved {u : Tm} {b : Int} (h : u.vin A) (h3 : u.k = 3) : (u.moved b).vin A := by
  cases u with
  | mk k s n l =>
    simp only [k_mk] at h3
    subst h3
    unfold moved
    rw [vin_iff] at h ⊢
    exact ⟨by simp, h.2⟩
theorem vin_shift {t : Tm} (a b : Int) (h : t.vin A) : (t.shift a b).vin A :=
  vin_walk _ t 0 h fun p _ hv => by
    unfold shiftF
    split
    · rename_i h; exact vin_moved hv h.1
    · exact hv
theorem vin_subst {t u : Tm} (i : Int) (h : t.vin A) (hu : u.vin A) : (t.subst i u).vin A :=
  vin_walk _ t 0 h fun p _ hv => by
    unfold substF
    split
    · exact hv
    · rename_i hc
      split
      · exact vin_shift _ _ hu
      · exact vin_moved hv (by omega)
theorem vin_lamsN (n : Nat) : ∀ t : Tm, t.vin A → (lamsN n t).vin A := by
  induction n with
  | zero => intro t h; exact h
  | succ n ih => intro t h; rw [lamsN]; exact ih _ ((vin_iff ..).2 ⟨by simp, by simpa using h⟩)
theorem vin_split {t : Tm} (h : t.vin A) (hv : t.valid = true) : t.split.1.vin A ∧ ∀ u ∈ t.split.2, u.vin A := by
  unfold split
  cases t with
  | mk k s n l =>
    split
    · exact ⟨h, by simp⟩
    · rename_i hk
      have h6 : k = 6 := by
        by_cases h6 : k = 6
        · exact h6
        · exact absurd (.inl (by simpa using h6)) hk
      subst h6
      have hl := (ok1_app.1 ((valid_iff ..).1 hv).1).2.2.1
      cases l with
      | nil => simp at hl
      | cons x xs => exact ⟨((vin_iff ..).1 h).2 x (by simp), fun u hu => ((vin_iff ..).1 h).2 u (by simp at hu ⊢; exact .inr hu)⟩
end Tm
namespace St
def Vin (A : Int → Prop) (S : St) : Prop := ∀ i ∈ S.V, i.bd = true → i.vl.vin A
open Tm in
theorem step_vin {S : St} {M : Nat} {B : Int} {A : Int → Prop} (h : S.Ok M B) (hV : S.Vin A) {t : Tm} (hv : t.valid = true) (ht : t.vin A) (h1 : (S.step t).2.1 = true) (h2 : (S.step t).2.2 = 0) : (S.step t).1.vin A := by
  have val : ∀ u : Tm, (S.value u).2 = true → (S.value u).1.vin A := by
    intro u hu
    unfold value at hu ⊢
    simp only [Bool.and_eq_true] at hu
    exact hV _ (info_mem hu.1.2) hu.2
  cases t with
  | mk k s n l =>
    unfold step at h1 h2 ⊢
    split
    · rename_i hv; exact val _ hv
    · rename_i hv'
      rw [if_neg hv'] at h1 h2
      split at h1
      · simp at h1
      · rename_i h6
        simp only [k_mk, ne_eq, Decidable.not_not] at h6
        subst h6
        simp only [k_mk, l_mk, ne_eq, not_true_eq_false, ↓reduceIte] at h1 h2 ⊢
        obtain ⟨-, hkv⟩ := (valid_iff ..).1 hv
        obtain ⟨-, -, hl, -⟩ := ok1_app.1 ((valid_iff ..).1 hv).1
        have hm := ((vin_iff ..).1 ht).2
        cases l with
        | nil => simp at hl
        | cons x xs =>
          simp only [List.getD_cons_zero, List.drop_succ_cons, List.drop_zero] at h1 h2 ⊢
          split
          · rename_i hvv
            exact vin_apply (val _ hvv) fun u hu => hm u (by simp [hu])
          · rename_i hvv
            rw [if_neg hvv] at h1 h2
            split at h1
            · simp at h1
            · rename_i h5
              rw [if_neg h5] at h2
              rw [if_neg h5]
              simp only [ne_eq, Decidable.not_not] at h5
              cases xs with
              | nil => simp at hl
              | cons y ys =>
                simp only [List.getD_cons_succ, List.getD_cons_zero, List.drop_succ_cons, List.drop_zero] at h1 h2 ⊢
                have hx := hm x (by simp)
                have hxv := hkv x (by simp)
                cases x with
                | mk xk xq xn xl =>
                  simp only [k_mk, l_mk] at h5 h2 ⊢
                  subst h5
                  obtain ⟨-, -, h1l⟩ := ok1_lam.1 ((valid_iff ..).1 hxv).1
                  obtain ⟨b, rfl⟩ := List.length_eq_one_iff.1 h1l
                  simp only [List.getD_cons_zero] at h2 ⊢
                  have hbv := ((valid_iff ..).1 hxv).2 b (by simp)
                  have hyv := hkv y (by simp)
                  have hc : contractV b y = contract b y := by unfold contractV; rw [if_pos ⟨hbv, hyv⟩]
                  rw [hc] at h2 ⊢
                  rw [(contract_size hbv hyv h2).2]
                  exact vin_apply (vin_subst 0 (((vin_iff ..).1 hx).2 b (by simp)) (hm y (by simp))) fun u hu => hm u (by simp [hu])
open Tm in
theorem head_vin (S : St) (M : Nat) {A : Int → Prop} (hV : S.Vin A) : ∀ (n : Nat) (B : Int) (t : Tm) (f : Int), f.toNat = n → S.Ok M B → t.valid = true → t.bnd B = true → t.size + n * M ≤ SB → B + n * SB ≤ far → t.vin A → (S.head t f).2.1 = 0 → (S.head t f).1.vin A := by
  intro n
  induction n with
  | zero =>
    intro B t f hf hS hv hb hs hB hA h0
    rw [head_eq] at h0 ⊢
    split
    · exact hA
    · rename_i h1
      rw [if_neg h1, if_pos (.inr (by omega))] at h0
      simp at h0
  | succ n ih =>
    intro B t f hf hS hv hb hs hB hA h0
    rw [head_eq] at h0 ⊢
    rw [Nat.succ_mul] at hs
    have hB' : B + (n * SB + SB : Nat) ≤ far := by rw [← Nat.succ_mul]; exact_mod_cast hB
    split
    · exact hA
    · rename_i h1
      rw [if_neg h1] at h0
      split at h0
      · simp at h0
      · rename_i h2
        rw [if_neg h2]
        have hh1 : (S.step t).2.1 = true := by simpa using h1
        have hh2 : (S.step t).2.2 = 0 ∧ 0 < f := by
          constructor
          · exact Decidable.byContradiction fun h => h2 (.inl h)
          · exact Decidable.byContradiction fun h => h2 (.inr (by omega))
        have hst := step_fit hS (t := t) ⟨hv, Nat.le_refl _, hb⟩ (by omega) (by omega) hh1 hh2.1
        have hst1 := hst.s
        have hS' : S.Ok M (B + SB) := ⟨hS.1, fun i hi hbd => (hS.2 i hi hbd).mono (Nat.le_refl _) (by omega)⟩
        exact ih (B + SB) (S.step t).1 (f - 1) (by omega) hS' hst.v hst.b (by omega) (by push_cast at hB' ⊢; omega) (step_vin hS hV hv hA hh1 hh2.1) h0
theorem Head_vin {S : St} {M : Nat} {B : Int} {A : Int → Prop} {t : Tm} {f : Int} (hV : S.Vin A) (hok : S.Ok M B) (hv : t.valid = true) (hb : t.bnd B = true) (hsz : t.size + f.toNat * M ≤ SB) (hB : B + f.toNat * SB ≤ Tm.far) (hA : t.vin A) (he : (S.Head t f).2.2 = 0) : (S.Head t f).1.vin A := by
  unfold Head runV at he ⊢
  rw [if_neg (by simp [hv])] at he ⊢
  split at he
  · rename_i h; exact absurd he h
  · rename_i h
    rw [if_neg h]
    exact head_vin S M hV f.toNat B t f rfl hok hv hb hsz hB hA (by simpa using h)
end St
end Go.Proofs.Ytbdappbmlnpogaa
namespace Go.Proofs.Ytbdappbmlnpogaa
open Go Go.RowKit
set_option maxRecDepth 100000
/-- What is kept of a store. -/
structure OInv (A : Int → Prop) (x : Int) (lvs : List Int) (S : St) : Prop where
  vals : S.Vin A
  old : ∀ (i : Nat) (v : Int), lvs[i]? = some v → ∃ y, S.V[i]? = some y ∧ y.lv = St.top0 v
  bds : ∀ (i : Nat) (y : Inf), S.V[i]? = some y → y.bd = true → A i ∧ (i : Int) ≠ x
  len : lvs.length ≤ S.V.length
theorem OInv.hang {A : Int → Prop} {x : Int} {lvs : List Int} {S : St} (h : OInv A x lvs S) (hA : ∀ m : Nat, lvs.length ≤ m → A m) {y lv n : Int} {on : List Tm} (hy : A y) (hyx : y ≠ x) (ho : ∀ u ∈ on, u.vin A) : OInv A x lvs (S.hang y lv n on).2 := by
  have hf : OInv A x lvs (S.fresh lv) := by
    refine ⟨fun i hi hb => ?_, fun i v hv => ?_, fun i y hy hb => ?_, by unfold St.fresh; simp; have := h.len; omega⟩
    · unfold St.fresh at hi
      rcases List.mem_append.1 hi with hi | hi
      · exact h.vals i hi hb
      · simp at hi; subst hi; cases hb
    · obtain ⟨y, h1, h2⟩ := h.old i v hv
      refine ⟨y, ?_, h2⟩
      unfold St.fresh
      rw [List.getElem?_append_left (List.getElem?_eq_some_iff.1 h1).1]
      exact h1
    · unfold St.fresh at hy
      by_cases hi : i < S.V.length
      · rw [List.getElem?_append_left hi] at hy; exact h.bds i y hy hb
      · rw [List.getElem?_append_right (by omega)] at hy
        cases hk : i - S.V.length with
        | zero => rw [hk] at hy; simp at hy; subst hy; cases hb
        | succ k => rw [hk] at hy; simp at hy
  have hval : (Tm.lams n (Tm.apply (leafT 4 S.V.length) on)).vin A := Tm.vin_lamsN _ _ (Tm.vin_apply ((Tm.vin_iff ..).2 ⟨fun _ => hA _ h.len, by simp⟩) ho)
  show OInv A x lvs ((S.fresh lv).bind y _).1
  generalize Tm.lams n (Tm.apply (leafT 4 S.V.length) on) = t at hval
  generalize S.fresh lv = T at hf
  unfold St.bind
  split
  · exact hf
  · rename_i hc
    have hin : (T.info y).2 = true := by
      cases hh : (T.info y).2 with
      | true => rfl
      | false => exact absurd (.inl hh) hc
    have hyr : 0 ≤ y ∧ y < T.V.length := by
      unfold St.info at hin
      split at hin
      · simp at hin
      · omega
    have hinf : T.V[y.toNat]? = some (T.info y).1 := by
      unfold St.info
      rw [if_neg (by omega)]
      simp only [List.getD_eq_getElem?_getD]
      rw [List.getElem?_eq_getElem (by omega)]
      rfl
    refine ⟨fun i hi hb => ?_, fun i v hv => ?_, fun i z hz hb => ?_, by simp; exact hf.len⟩
    · rcases List.mem_or_eq_of_mem_set hi with hi | rfl
      · exact hf.vals i hi hb
      · exact hval
    · obtain ⟨z, h1, h2⟩ := hf.old i v hv
      by_cases e : y.toNat = i
      · subst e
        rw [hinf] at h1
        injection h1 with h1
        refine ⟨_, by rw [List.getElem?_set, if_pos rfl, if_pos (by omega)], ?_⟩
        dsimp only
        rw [h1]; exact h2
      · exact ⟨z, by rw [List.getElem?_set, if_neg e]; exact h1, h2⟩
    · by_cases e : y.toNat = i
      · subst e
        have : ((y.toNat : Nat) : Int) = y := by omega
        rw [this]
        exact ⟨hy, hyx⟩
      · rw [List.getElem?_set, if_neg e] at hz
        exact hf.bds i z hz hb
namespace Ic
theorem flexA_vin (c : Ic) (A : Int → Prop) (k n : Int) (l : List Tm) : ∀ i, ∀ u ∈ (flexA c k n l i).1, u.vin A := by
  induction l with
  | nil => intro i u hu; simp [flexA] at hu
  | cons x xs ih =>
    intro i u hu
    rw [flexA] at hu
    split at hu
    · rcases List.mem_cons.1 hu with rfl | hu
      · exact (Tm.vin_iff ..).2 ⟨by simp, by simp⟩
      · exact ih (i + 1) u hu
    · exact ih (i + 1) u hu
theorem flexB_vin (c : Ic) (A : Int → Prop) (k lv : Int) (l : List Tm) (hl : ∀ u ∈ l, u.isLeaf = true) : ∀ i, ∀ u ∈ (flexB c k lv l i).1, u.vin A := by
  induction l with
  | nil => intro i u hu; simp [flexB] at hu
  | cons x xs ih =>
    intro i u hu
    have ih := ih (fun u hu => hl u (by simp [hu]))
    rw [flexB] at hu
    split at hu
    · rename_i hc
      rcases List.mem_cons.1 hu with rfl | hu
      · have hlf := hl u (by simp)
        unfold Tm.isLeaf at hlf
        cases u with
        | mk k s n l =>
          simp only [Tm.k_mk] at hc
          have hk := hc.2.1
          subst hk
          simp only [Bool.and_eq_true] at hlf
          have h0 := Tm.ok1_leaf ((Tm.valid_iff ..).1 hlf.1).1 (by omega) (by omega)
          subst h0
          exact (Tm.vin_iff ..).2 ⟨by simp, by simp⟩
      · exact ih (i + 1) u hu
    · exact ih (i + 1) u hu
theorem fail_S (v : Iv) (e : Int) : (v.fail e).2.S = v.S := by unfold Iv.fail; dsimp only; split <;> rfl
theorem flex_oinv {c : Ic} {A : Int → Prop} {x : Int} {lvs : List Int} (hL : ∀ u ∈ c.L, u.isLeaf = true) (hA : ∀ m : Nat, lvs.length ≤ m → A m) {v : Iv} {y : Int} {l : List Tm} {k : Int} (h : OInv A x lvs v.S) (hy : A y) (hyx : y ≠ x) : OInv A x lvs (flex c v y l k).2.S := by
  unfold flex
  dsimp only
  split
  · rw [fail_S]; exact h
  · split
    · exact h
    · exact h.hang hA hy hyx (fun u hu => by
        rcases List.mem_append.1 hu with hu | hu
        · exact flexA_vin c A _ _ _ _ u hu
        · exact flexB_vin c A _ _ _ hL _ u hu)
theorem mapV_oinv {c : Ic} {M : Nat} {A : Int → Prop} {x : Int} {lvs : List Int} {B : Int} {g : Iv → Tm → Tm × Iv} {n : Nat} (hk : ∀ v t, v.f.toNat ≤ n → Ask c M v t B → Kept M v (g v t).2) (hg : ∀ v t, v.f.toNat ≤ n → Ask c M v t B → t.vin A → OInv A x lvs v.S → OInv A x lvs (g v t).2.S) :
    ∀ (l : List Tm) (v : Iv), v.f.toNat ≤ n → (∀ u ∈ l, Ask c M v u B ∧ u.vin A) → OInv A x lvs v.S → OInv A x lvs (mapV g v l).2.S := by
  intro l
  induction l with
  | nil => intro v _ _ h; exact h
  | cons t ts ih =>
    intro v hn hl h
    rw [mapV]
    have k1 := hk v t hn (hl t (by simp)).1
    exact ih _ (by have := k1.f; omega) (fun u hu => ⟨(hl u (by simp [hu])).1.kept k1, (hl u (by simp [hu])).2⟩) (hg v t hn (hl t (by simp)).1 (hl t (by simp)).2 h)
theorem termF_oinv {c : Ic} {M : Nat} {A : Int → Prop} {lvs : List Int} (hL : ∀ u ∈ c.L, u.isLeaf = true) (hA : ∀ m : Nat, lvs.length ≤ m → A m) : ∀ (m : Nat) (v : Iv) (t : Tm) (k B : Int), v.f.toNat ≤ m → Ask c M v t B → t.vin A → OInv A c.x lvs v.S → OInv A c.x lvs (termF c m v t k).2.S := by
  intro m
  induction m with
  | zero =>
    intro v t k B _ _ _ h
    rw [termF]
    split
    · exact h
    · rw [fail_S]; exact h
  | succ m ih =>
    intro v t k B hm ha ht h
    rw [termF]
    split
    · exact h
    · split
      · rw [fail_S]; exact h
      · rename_i hf
        dsimp only
        split
        · rw [fail_S]; exact h
        · rename_i he
          have he' : (v.S.Head t (v.f - 1)).2.2 = 0 := by simpa using he
          obtain ⟨k1, h2, h3, a1⟩ := ha.head (by omega) he'
          have hM : v.f.toNat * M = (v.f - 1).toNat * M + M := by rw [show v.f.toNat = (v.f - 1).toNat + 1 by omega, Nat.succ_mul]
          have hSB : (v.f.toNat : Int) * SB = ((v.f - 1).toNat : Int) * SB + SB := by
            rw [show v.f.toNat = (v.f - 1).toNat + 1 by omega]
            push_cast
            rw [Int.add_mul]
            omega
          have b1 := ha.sz
          have b2 := ha.far
          have hhv := St.Head_vin (f := v.f - 1) h.vals (ha.ok.mono ha.dB) ha.tv ha.tb (by omega) (by omega) ht he'
          generalize B + ((v.f - 1).toNat - (v.S.Head t (v.f - 1)).2.1.toNat : Nat) * SB = B1 at a1
          obtain ⟨s1, s2, s3, s4⟩ := split_fit a1.fit
          obtain ⟨w1, w2⟩ := Tm.vin_split hhv a1.tv
          have hbody : (v.S.Head t (v.f - 1)).1.split.1.k = 5 → Tm.Fit (v.S.Head t (v.f - 1)).1.size B1 ((v.S.Head t (v.f - 1)).1.split.1.l.getD 0 Tm.zero) ∧ ((v.S.Head t (v.f - 1)).1.split.1.l.getD 0 Tm.zero).vin A := by
            intro h5
            obtain ⟨b, hb, hfb⟩ := lam_body s1 h5
            generalize (v.S.Head t (v.f - 1)).1.split.1 = hd at *
            cases hd with
            | mk hk hs hn hl =>
              simp only [Tm.l_mk] at hb
              subst hb
              exact ⟨hfb, ((Tm.vin_iff ..).1 w1).2 b (by simp)⟩
          split
          · rename_i h5
            exact ih _ _ _ B1 (by dsimp only; omega) (a1.part (hbody h5).1) (hbody h5).2 h
          · split
            · rename_i h4
              split
              · split
                · rw [fail_S]; exact h
                · rw [fail_S]; exact h
              · rename_i hx
                have hAn : A (v.S.Head t (v.f - 1)).1.split.1.n := by
                  generalize (v.S.Head t (v.f - 1)).1.split.1 = hd at *
                  cases hd with
                  | mk hk hs hn hl => exact ((Tm.vin_iff ..).1 w1).1 (by simpa using h4)
                exact flex_oinv hL hA (v := { v with f := (v.S.Head t (v.f - 1)).2.1 }) h hAn hx
            · have kk := mapV_oinv (c := c) (M := M) (A := A) (x := c.x) (lvs := lvs) (n := m) (B := B1) (g := fun v t => termF c m v t k) (fun v t hn ha => termF_kept hL m v t k B1 hn ha) (fun v t hn ha hv ho => ih v t k B1 hn ha hv ho) (v.S.Head t (v.f - 1)).1.split.2 { v with f := (v.S.Head t (v.f - 1)).2.1 } (by dsimp only; omega) (fun u hu => ⟨a1.part (s2 u hu), w2 u hu⟩) h
              split
              · split
                · rw [fail_S]; exact h
                · exact kk
              · split
                · rw [fail_S]; exact h
                · exact kk
end Ic
/-- The law's plain part. -/
theorem vin_vars (t : Tm) (A : Int → Prop) : ∀ d, t.valid = true → (∀ p ∈ t.leaves d, p.1.k = 4 → A p.1.n) → t.vin A := by
  induction t using Tm.ind with
  | h k s n l ih =>
    intro d hv hp
    rw [Tm.leaves] at hp
    rw [Tm.vin_iff]
    by_cases hk : k = 5 ∨ k = 6
    · rw [if_pos hk] at hp
      exact ⟨fun e => by omega, fun u hu => ih u hu _ (((Tm.valid_iff ..).1 hv).2 u hu) (fun p hpu => hp p (leaves_of_mem hu _ hpu))⟩
    · rw [if_neg hk] at hp
      have h0 := Tm.ok1_leaf ((Tm.valid_iff ..).1 hv).1 (by omega) (by omega)
      subst h0
      exact ⟨fun e => hp (Tm.mk k s n [], d) (by simp) e, by simp⟩
theorem others_plain (levels : List Int) (x : Int) (l : List Tm) (t : Tm) (hv : t.valid = true) (h8 : levels.length ≤ 8) (h6 : l.length ≤ 6) (hs : t.size ≤ 24) (hb : t.bnd 1000 = true) : OthersOk levels x t ((FreeS levels).invert x l t 80) := by
  have hA : ∀ m : Nat, levels.length ≤ m → (fun v : Int => v ∈ t.vars ∨ (levels.length : Int) ≤ v) (m : Int) := fun m hm => .inr (by omega)
  have h0 : OInv (fun v : Int => v ∈ t.vars ∨ (levels.length : Int) ≤ v) x levels (FreeS levels) := by
    refine ⟨fun i hi hbd => ?_, fun i v hv => ?_, fun i y hy hbd => ?_, by unfold FreeS; simp⟩
    · unfold FreeS at hi
      obtain ⟨v, -, rfl⟩ := List.mem_map.1 hi
      cases hbd
    · exact ⟨_, by unfold FreeS; rw [List.getElem?_map, hv]; rfl, rfl⟩
    · unfold FreeS at hy
      rw [List.getElem?_map] at hy
      cases hh : levels[i]? with
      | none => rw [hh] at hy; cases hy
      | some v => rw [hh] at hy; simp at hy; subst hy; cases hbd
  have fin : ∀ S' : St, OInv (fun v : Int => v ∈ t.vars ∨ (levels.length : Int) ≤ v) x levels S' → ∀ (i : Nat) (v : Int), levels[i]? = some v → ∃ y, S'.info i = (y, true) ∧ y.lv = St.top0 v ∧ (y.bd = true → (i : Int) ∈ t.vars ∧ (i : Int) ≠ x) := by
    intro S' h i v hv
    obtain ⟨y, h1, h2⟩ := h.old i v hv
    have hi := (List.getElem?_eq_some_iff.1 h1).1
    have hil := (List.getElem?_eq_some_iff.1 hv).1
    refine ⟨y, ?_, h2, fun hbd => ?_⟩
    · unfold St.info
      rw [if_neg (by omega)]
      simp [List.getD_eq_getElem?_getD, h1]
    · obtain ⟨a, b⟩ := h.bds i y h1 hbd
      exact ⟨a.elim id (fun h => by omega), b⟩
  have ask := others_ask levels x l t h8 h6 hv hs hb
  unfold St.invert
  split
  · exact ⟨fin _ h0, fun h => by simp at h, fun _ => rfl⟩
  · rename_i hc
    have hl : ∀ u ∈ l, u.isLeaf = true := fun u hu => by
      cases h : u.isLeaf with
      | true => rfl
      | false => exact absurd (.inr (.inr (.inr (List.any_eq_true.2 ⟨u, hu, by rw [h]; rfl⟩)))) hc
    have hk := Ic.termF_kept (c := ⟨x, ((FreeS levels).info x).1.lv, l⟩) (M := 4097) hl (Int.toNat 80) ⟨FreeS levels, 80, 0⟩ t 0 DB (Nat.le_refl _) ask
    have ho := Ic.termF_oinv (c := ⟨x, ((FreeS levels).info x).1.lv, l⟩) (M := 4097) (A := fun v : Int => v ∈ t.vars ∨ (levels.length : Int) ≤ v) (lvs := levels) hl hA (Int.toNat 80) ⟨FreeS levels, 80, 0⟩ t 0 DB (Nat.le_refl _) ask (vin_vars t _ 0 hv (fun p hp hk => .inl ((vars_iff t _).2 ⟨p, hp, hk, rfl⟩))) h0
    dsimp only
    split
    · rename_i he
      exact ⟨fin _ ho, fun h => absurd h he, fun _ => rfl⟩
    · exact ⟨fin _ ho, fun _ => hk.f, fun h => absurd rfl h⟩
theorem law_InvertOthers_true (H : GH) (w : World) (levels : List Int) (vL : Value) (x : Int) (l : List Tm) (vl : Value) (t : Tm) (cs : List Value) (hA : Agree H w) (hL : Ints H vL levels) (hx : I64 x) (hK : Tms H vl l) (hR : Rep H t cs) :
    Calls Try.prog 4 #[vL, .int .i64 x, vl, .agg cs.toArray] w fun e w' => e = .returned (.bool true) ∧ Below w.heap.size w w' :=
  law_InvertOthers H w levels vL x l vl t cs hA hL hx hK hR (fun hv h8 h6 hs hb => others_plain levels x l t hv h8 h6 hs hb)
end Go.Proofs.Ytbdappbmlnpogaa
