/- Package invert on plain data: what an inversion keeps. Package invert on plain data: what term is asked, and what it keeps. Package invert: term, where it stops at once. -/
import Derived.Test.YtbdappbmlnpogaaFlex
namespace Go.Proofs.Ytbdappbmlnpogaa
open Go Go.RowKit
set_option maxRecDepth 100000
/-- A bound for the numbers of what is bound in what a store's variables stand for. -/
abbrev DB : Int := 1048576
/-- What an inversion keeps. -/
structure Kept (M : Nat) (v q : Iv) : Prop where
  ok : q.S.Ok M DB
  f : q.f ≤ v.f
  f0 : 0 ≤ v.f → 0 ≤ q.f
  V : q.S.V.length + q.f.toNat ≤ v.S.V.length + v.f.toNat
  T : q.S.T.length + q.f.toNat ≤ v.S.T.length + v.f.toNat
theorem Kept.refl {M : Nat} {v : Iv} (h : v.S.Ok M DB) : Kept M v v := ⟨h, Int.le_refl _, id, Nat.le_refl _, Nat.le_refl _⟩
theorem Kept.trans {M : Nat} {v q r : Iv} (h : Kept M v q) (h' : Kept M q r) : Kept M v r :=
  ⟨h'.ok, Int.le_trans h'.f h.f, fun h0 => h'.f0 (h.f0 h0), Nat.le_trans h'.V h.V, Nat.le_trans h'.T h.T⟩
theorem Kept.fail {M : Nat} {v q : Iv} (h : Kept M v q) (e : Int) : Kept M v (q.fail e).2 := by
  unfold Iv.fail
  dsimp only
  split
  · exact ⟨h.ok, h.f, h.f0, h.V, h.T⟩
  · exact h
theorem bnd_lamsN {B : Int} (n : Nat) : ∀ t : Tm, t.bnd B = true → (Tm.lamsN n t).bnd B = true := by
  induction n with
  | zero => intro t h; exact h
  | succ n ih => intro t h; rw [Tm.lamsN]; exact ih _ ((Tm.bnd_iff ..).2 ⟨by simp, by simpa using h⟩)
namespace St
theorem fresh_ok {S : St} {M : Nat} {B : Int} (h : S.Ok M B) (lv : Int) : (S.fresh lv).Ok M B :=
  ⟨h.1, fun i hi hb => by
    unfold fresh at hi
    rcases List.mem_append.1 hi with hi | hi
    · exact h.2 i hi hb
    · simp at hi; subst hi; cases hb⟩
theorem bind_ok {S : St} {M : Nat} {B : Int} (h : S.Ok M B) (x : Int) (t : Tm) (hs : t.size ≤ M) (hb : t.bnd B = true) : (S.bind x t).1.Ok M B ∧ (S.bind x t).1.V.length = S.V.length ∧ (S.bind x t).1.T.length ≤ S.T.length + 1 := by
  unfold bind
  split
  · exact ⟨h, rfl, Nat.le_succ _⟩
  · rename_i hc
    refine ⟨⟨h.1, fun i hi hbd => ?_⟩, by simp, by simp⟩
    rcases List.mem_or_eq_of_mem_set hi with hi | rfl
    · exact h.2 i hi hbd
    · refine ⟨?_, hs, hb⟩
      cases hv : t.valid with
      | true => rfl
      | false => exact absurd (.inr (.inr (.inl hv))) hc
theorem hang_ok {S : St} {M : Nat} {B : Int} (h : S.Ok M B) (x lv n : Int) (on : List Tm) (hs : (Tm.lams n (Tm.apply (leafT 4 S.V.length) on)).size ≤ M) (hb : ∀ u ∈ on, u.bnd B = true) :
    (S.hang x lv n on).2.Ok M B ∧ (S.hang x lv n on).2.V.length = S.V.length + 1 ∧ (S.hang x lv n on).2.T.length ≤ S.T.length + 1 := by
  have hbd : (Tm.lams n (Tm.apply (leafT 4 S.V.length) on)).bnd B = true := bnd_lamsN _ _ (Tm.bnd_apply ((Tm.bnd_iff ..).2 ⟨by simp, by simp⟩) hb)
  obtain ⟨h1, h2, h3⟩ := bind_ok (fresh_ok h lv) x _ hs hbd
  refine ⟨h1, ?_, ?_⟩
  · show ((S.fresh lv).bind x _).1.V.length = _
    rw [h2]; unfold fresh; simp
  · exact Nat.le_trans h3 (by unfold fresh; simp)
/-- What Head gives where there is no error. -/
theorem Head_fit {S : St} {M : Nat} {B : Int} {t : Tm} {f : Int} (hok : S.Ok M B) (hv : t.valid = true) (hb : t.bnd B = true) (hf : 0 ≤ f) (hsz : t.size + f.toNat * M ≤ SB) (hB : B + f.toNat * SB ≤ Tm.far) (he : (S.Head t f).2.2 = 0) :
    0 ≤ (S.Head t f).2.1 ∧ (S.Head t f).2.1 ≤ f ∧ (S.Head t f).1.valid = true ∧ (S.Head t f).1.bnd (B + (f.toNat - (S.Head t f).2.1.toNat : Nat) * SB) = true ∧ (S.Head t f).1.size + (S.Head t f).2.1.toNat * M ≤ t.size + f.toNat * M := by
  unfold Head runV at he ⊢
  rw [if_neg (by simp [hv])] at he ⊢
  split at he
  · rename_i h; exact absurd he h
  · rename_i h
    rw [if_neg h]
    have h := head_ok hok hv hb hsz hB (by simpa using h)
    exact ⟨h.nn hf, h.le, h.v, h.b, h.sz⟩
end St
theorem split_fit {Z : Nat} {B : Int} {t : Tm} (h : Tm.Fit Z B t) : Tm.Fit Z B t.split.1 ∧ (∀ u ∈ t.split.2, Tm.Fit Z B u) ∧ t.split.2.length < t.size ∧ (t.split.1.k = 6 → t.split.1.l ≠ []) := by
  unfold Tm.split
  cases t with
  | mk k s n l =>
    split
    · refine ⟨h, by simp, Tm.size_pos _, fun h6 => ?_⟩
      dsimp only at h6 ⊢
      simp only [Tm.k_mk] at h6
      subst h6
      have := (Tm.ok1_app.1 ((Tm.valid_iff ..).1 h.v).1).2.2.1
      intro h0
      simp only [Tm.l_mk] at h0
      rw [h0] at this
      simp at this
    · rename_i hk
      have h6 : k = 6 := by
        by_cases h6 : k = 6
        · exact h6
        · exact absurd (.inl (by simpa using h6)) hk
      subst h6
      obtain ⟨-, -, hl, hh⟩ := Tm.ok1_app.1 ((Tm.valid_iff ..).1 h.v).1
      cases l with
      | nil => simp at hl
      | cons x xs =>
        simp only [Tm.l_mk, List.getD_cons_zero, List.drop_succ_cons, List.drop_zero] at hh ⊢
        refine ⟨h.mem (by simp), fun u hu => h.mem (by simp [hu]), ?_, fun h6 => absurd h6 (by simpa using hh)⟩
        have := Tm.length_lt 6 s n (x :: xs)
        simp only [List.length_cons] at this
        omega
namespace Ic
theorem flexA_bnd (c : Ic) (k n : Int) (hn : n ≤ DB) (l : List Tm) : ∀ i, 0 ≤ i → ∀ u ∈ (flexA c k n l i).1, u.bnd DB = true := by
  induction l with
  | nil => intro i _ u hu; simp [flexA] at hu
  | cons x xs ih =>
    intro i hi u hu
    rw [flexA] at hu
    split at hu
    · rcases List.mem_cons.1 hu with rfl | hu
      · exact (Tm.bnd_iff ..).2 ⟨fun _ => by omega, by simp⟩
      · exact ih (i + 1) (by omega) u hu
    · exact ih (i + 1) (by omega) u hu
theorem flexB_bnd (c : Ic) (k lv : Int) (l : List Tm) (hl : ∀ u ∈ l, u.isLeaf = true) : ∀ i, ∀ u ∈ (flexB c k lv l i).1, u.bnd DB = true := by
  induction l with
  | nil => intro i u hu; simp [flexB] at hu
  | cons x xs ih =>
    intro i u hu
    have ih := ih (fun u hu => hl u (by simp [hu]))
    rw [flexB] at hu
    split at hu
    · rename_i hc
      rcases List.mem_cons.1 hu with rfl | hu
      · have hlf := hl u (by simp)
        unfold Tm.isLeaf at hlf
        cases u with
        | mk k s n l =>
          simp only [Tm.k_mk] at hc
          have hk := hc.2.1
          subst hk
          simp only [Bool.and_eq_true] at hlf
          have h0 := Tm.ok1_leaf ((Tm.valid_iff ..).1 hlf.1).1 (by omega) (by omega)
          subst h0
          exact (Tm.bnd_iff ..).2 ⟨by simp, by simp⟩
      · exact ih (i + 1) u hu
    · exact ih (i + 1) u hu
theorem flex_kept {c : Ic} {M : Nat} (hL : ∀ u ∈ c.L, u.isLeaf = true) {v : Iv} {y : Int} {l : List Tm} {k : Int} (hok : v.S.Ok M DB) (hf : 0 ≤ v.f) (hM : 2 * v.f.toNat + c.L.length + 4 ≤ M) (hD : v.f ≤ DB) :
    let q := (flex c v y l k).2
    q.S.Ok M DB ∧ q.f ≤ v.f ∧ 0 ≤ q.f ∧ q.S.V.length ≤ v.S.V.length + 1 ∧ q.S.T.length ≤ v.S.T.length + 1 := by
  unfold flex
  dsimp only
  split
  · rename_i he
    have := (Kept.refl (v := v) hok).fail (v.S.args y l v.f).2.2
    refine ⟨this.ok, this.f, this.f0 hf, ?_, ?_⟩
    · unfold Iv.fail; dsimp only; split <;> exact Nat.le_succ _
    · unfold Iv.fail; dsimp only; split <;> exact Nat.le_succ _
  · rename_i he
    obtain ⟨h1, h2, h3⟩ := St.args_fuel v.S y l v.f hf (by simpa using he)
    split
    · exact ⟨hok, by dsimp only; omega, h2, Nat.le_succ _, Nat.le_succ _⟩
    · have hA := flexA_len c k (v.S.args y l v.f).1.length (v.S.args y l v.f).1 0
      have hB := flexB_len c k (v.S.info y).1.lv c.L hL 0
      have hap := (Tm.apply_size (leafT 4 v.S.V.length) ((flexA c k (v.S.args y l v.f).1.length (v.S.args y l v.f).1 0).1 ++ (flexB c k (v.S.info y).1.lv c.L 0).1)).1
      have hla := lams_size (v.S.args y l v.f).1.length (Tm.apply (leafT 4 v.S.V.length) ((flexA c k (v.S.args y l v.f).1.length (v.S.args y l v.f).1 0).1 ++ (flexB c k (v.S.info y).1.lv c.L 0).1))
      rw [size_leafT, Tm.sizeL_append] at hap
      obtain ⟨g1, g2, g3⟩ := St.hang_ok (S := v.S) hok y (if c.lv < (v.S.info y).1.lv then c.lv else (v.S.info y).1.lv) (v.S.args y l v.f).1.length _ (by unfold Tm.lams; simp only [Int.toNat_natCast]; rw [hla]; omega) (fun u hu => by
        rcases List.mem_append.1 hu with hu | hu
        · exact flexA_bnd c k _ (by omega) _ 0 (Int.le_refl _) u hu
        · exact flexB_bnd c k _ _ hL 0 u hu)
      exact ⟨g1, by dsimp only; omega, h2, by rw [g2]; exact Nat.le_refl _, g3⟩
end Ic
end Go.Proofs.Ytbdappbmlnpogaa
namespace Go.Proofs.Ytbdappbmlnpogaa
open Go Go.RowKit
set_option maxRecDepth 100000
/-- What is asked of a term that is gone through. -/
structure Ask (c : Ic) (M : Nat) (v : Iv) (t : Tm) (B : Int) : Prop where
  ok : v.S.Ok M DB
  hM : 2 * v.f.toNat + c.L.length + 4 ≤ M
  hD : v.f ≤ DB
  tv : t.valid = true
  tb : t.bnd B = true
  dB : DB ≤ B
  sz : t.size + v.f.toNat * M + M ≤ SB
  far : B + v.f.toNat * SB + SB ≤ Tm.far
  V : v.S.V.length + v.f.toNat ≤ 1073741824
  T : v.S.T.length + v.f.toNat ≤ 1073741824
theorem Ask.kept {c : Ic} {M : Nat} {v q : Iv} {t : Tm} {B : Int} (h : Ask c M v t B) (k : Kept M v q) : Ask c M q t B := by
  have h1 : q.f.toNat ≤ v.f.toNat := by have := k.f; omega
  have h2 : q.f.toNat * M ≤ v.f.toNat * M := Nat.mul_le_mul_right _ h1
  have h3 : (q.f.toNat : Int) * SB ≤ v.f.toNat * SB := Int.mul_le_mul_of_nonneg_right (by omega) (by omega)
  have := h.hM; have := h.sz; have := h.far; have := h.V; have := h.T; have := h.hD; have := k.V; have := k.T; have := k.f
  exact ⟨k.ok, by omega, by omega, h.tv, h.tb, h.dB, by omega, by omega, by omega, by omega⟩
theorem Ask.part {c : Ic} {M : Nat} {v : Iv} {t u : Tm} {B : Int} (h : Ask c M v t B) (hu : Tm.Fit t.size B u) : Ask c M v u B :=
  ⟨h.ok, h.hM, h.hD, hu.v, hu.b, h.dB, by have := h.sz; have := hu.s; omega, h.far, h.V, h.T⟩
theorem Ask.fit {c : Ic} {M : Nat} {v : Iv} {t : Tm} {B : Int} (h : Ask c M v t B) : Tm.Fit t.size B t := ⟨h.tv, Nat.le_refl _, h.tb⟩
/-- Behind the head's steps. -/
theorem Ask.head {c : Ic} {M : Nat} {v : Iv} {t : Tm} {B : Int} (h : Ask c M v t B) (hf : 0 < v.f) (he : (v.S.Head t (v.f - 1)).2.2 = 0) :
    Kept M v { v with f := (v.S.Head t (v.f - 1)).2.1 } ∧ (v.S.Head t (v.f - 1)).2.1 + 1 ≤ v.f ∧ 0 ≤ (v.S.Head t (v.f - 1)).2.1 ∧ Ask c M { v with f := (v.S.Head t (v.f - 1)).2.1 } (v.S.Head t (v.f - 1)).1 (B + ((v.f - 1).toNat - (v.S.Head t (v.f - 1)).2.1.toNat : Nat) * SB) := by
  have hM : v.f.toNat * M = (v.f - 1).toNat * M + M := by rw [show v.f.toNat = (v.f - 1).toNat + 1 by omega, Nat.succ_mul]
  have hSB : (v.f.toNat : Int) * SB = ((v.f - 1).toNat : Int) * SB + SB := by
    rw [show v.f.toNat = (v.f - 1).toNat + 1 by omega]
    push_cast
    rw [Int.add_mul]
    omega
  have a1 := h.sz; have a2 := h.far; have a3 := h.hM; have a4 := h.V; have a5 := h.T; have a6 := h.hD; have a7 := h.dB
  obtain ⟨h1, h2, h3, h4, h5⟩ := St.Head_fit (f := v.f - 1) (h.ok.mono h.dB) h.tv h.tb (by omega) (by omega) (by omega) he
  have h6 := St.toNat_sub_mul (v.f - 1).toNat (v.S.Head t (v.f - 1)).2.1.toNat (by omega) SB
  have h7 : (0 : Int) ≤ ((v.f - 1).toNat - (v.S.Head t (v.f - 1)).2.1.toNat : Nat) * SB := Int.mul_nonneg (by omega) (by omega)
  refine ⟨⟨h.ok, by dsimp only; omega, fun _ => h1, by dsimp only; omega, by dsimp only; omega⟩, by omega, h1, ⟨h.ok, by dsimp only; omega, by dsimp only; omega, h3, h4, by omega, by dsimp only; omega, by dsimp only; omega, by dsimp only; omega, by dsimp only; omega⟩⟩
namespace Ic
theorem mapV_kept {c : Ic} {M : Nat} {B : Int} {g : Iv → Tm → Tm × Iv} {n : Nat} (hg : ∀ v t, v.f.toNat ≤ n → Ask c M v t B → Kept M v (g v t).2) : ∀ (l : List Tm) (v : Iv), v.f.toNat ≤ n → v.S.Ok M DB → (∀ u ∈ l, Ask c M v u B) → Kept M v (mapV g v l).2 := by
  intro l
  induction l with
  | nil => intro v _ hok _; exact Kept.refl hok
  | cons x xs ih =>
    intro v hn hok hl
    rw [mapV]
    have k1 := hg v x hn (hl x (by simp))
    exact k1.trans (ih _ (by have := k1.f; omega) k1.ok fun u hu => (hl u (by simp [hu])).kept k1)
theorem termF_kept {c : Ic} {M : Nat} (hL : ∀ u ∈ c.L, u.isLeaf = true) : ∀ (m : Nat) (v : Iv) (t : Tm) (k B : Int), v.f.toNat ≤ m → Ask c M v t B → Kept M v (termF c m v t k).2 := by
  intro m
  induction m with
  | zero =>
    intro v t k B _ h
    rw [termF]
    split
    · exact Kept.refl h.ok
    · exact (Kept.refl h.ok).fail _
  | succ m ih =>
    intro v t k B hm h
    rw [termF]
    split
    · exact Kept.refl h.ok
    · split
      · exact (Kept.refl h.ok).fail _
      · rename_i hf
        dsimp only
        split
        · exact (Kept.refl h.ok).fail _
        · rename_i he
          obtain ⟨k1, h2, h3, a1⟩ := h.head (by omega) (by simpa using he)
          generalize B + ((v.f - 1).toNat - (v.S.Head t (v.f - 1)).2.1.toNat : Nat) * SB = B1 at a1
          obtain ⟨s1, s2, s3, s4⟩ := split_fit a1.fit
          split
          · rename_i h5
            refine k1.trans (ih _ _ _ B1 (by dsimp only; omega) (a1.part ?_))
            generalize (v.S.Head t (v.f - 1)).1.split.1 = hd at *
            cases hd with
            | mk hk hs hn hl =>
              simp only [Tm.k_mk] at h5
              subst h5
              obtain ⟨-, -, h1l⟩ := Tm.ok1_lam.1 ((Tm.valid_iff ..).1 s1.v).1
              obtain ⟨b, rfl⟩ := List.length_eq_one_iff.1 h1l
              exact s1.mem (by simp)
          · split
            · split
              · split
                · exact k1.fail _
                · exact k1.fail _
              · obtain ⟨b1, b2, b3, b4, b5⟩ := flex_kept hL (v := { v with f := (v.S.Head t (v.f - 1)).2.1 }) (y := (v.S.Head t (v.f - 1)).1.split.1.n) (l := (v.S.Head t (v.f - 1)).1.split.2) (k := k) a1.ok h3 a1.hM a1.hD
                dsimp only at b2 b4 b5
                exact ⟨b1, by omega, fun _ => b3, by omega, by omega⟩
            · have kk := k1.trans (mapV_kept (n := m) (B := B1) (fun v t hn ha => ih v t k B1 hn ha) (v.S.Head t (v.f - 1)).1.split.2 _ (by dsimp only; omega) a1.ok fun u hu => a1.part (s2 u hu))
              split
              · split
                · exact k1.fail _
                · exact kk
              · split
                · exact k1.fail _
                · exact kk
end Ic
end Go.Proofs.Ytbdappbmlnpogaa
namespace Go.Proofs.Ytbdappbmlnpogaa
open Go Go.RowKit
set_option maxRecDepth 100000
theorem term_fin {F G : Nat → Prop} {vb s : Nat} {c : Ic} {la : Option Addr} {lc : Nat} {H H7 : GH} {w w7 : World} {Y : Tm} {ya : Option Addr} {yc : Nat} {S' : St} {f e : Int} {r : Tm × Iv} {rb : Nat} (hrb : w.heap.size ≤ rb) (hvb : vb < w.heap.size) (E : Ext (fun k => k = vb ∨ F k) H w H7 w7) (n7 : H7 rb = none)
    (BV : w7.heap[vb]? = some (ivbox s c la lc f e)) (hS : StAt H7 w7 G s S') (hG : ¬ G rb) (hGF : ∀ k, G k → F k ∨ w.heap.size ≤ k) (hR : Rep H7 Y (tcells Y ya yc).toList) (hr : r = (Y, ⟨S', f, e⟩)) :
    FlexPost F vb s c la lc H w r (.returned (.agg #[.int .i64 Y.k, .string Y.s, .int .i64 Y.n, .slice ya Y.l.length yc])) ((((w7.setCell ⟨rb, 0, none⟩ (.int .i64 Y.k)).setCell ⟨rb, 1, none⟩ (.string Y.s)).setCell ⟨rb, 2, none⟩ (.int .i64 Y.n)).setCell ⟨rb, 3, none⟩ (.slice ya Y.l.length yc)) := by
  subst hr
  have T : Ext (fun k => k = rb) H7 w7 H7 ((((w7.setCell ⟨rb, 0, none⟩ (.int .i64 Y.k)).setCell ⟨rb, 1, none⟩ (.string Y.s)).setCell ⟨rb, 2, none⟩ (.int .i64 Y.n)).setCell ⟨rb, 3, none⟩ (.slice ya Y.l.length yc)) :=
    ((((Ext.refl (O := fun k => k = rb) E.agree).setCell (p := ⟨rb, 0, none⟩) n7 (fun _ => rfl) _).setCell (p := ⟨rb, 1, none⟩) n7 (fun _ => rfl) _).setCell (p := ⟨rb, 2, none⟩) n7 (fun _ => rfl) _).setCell (p := ⟨rb, 3, none⟩) n7 (fun _ => rfl) _
  exact ⟨H7, _, rfl, E.store4 n7 hrb _ _ _ _, hR, (T.block vb (cell_lt BV) (fun h => by omega)).trans BV, (hS.ext T (fun k hk hF => by subst hk; exact hG hF)).mono hGF⟩
/-- The case of an error: no term, and the error is noted. -/
theorem term_err {F G : Nat → Prop} {vb s : Nat} {c : Ic} {la : Option Addr} {lc : Nat} {H H7 : GH} {w w7 w8 : World} {S' : St} {f e er : Int} {r : Tm × Iv} {rb : Nat} (hrb : w.heap.size ≤ rb) (hvb : vb < w.heap.size) (E : Ext (fun k => k = vb ∨ F k) H w H7 w7) (n7 : H7 rb = none) (hvn : H7 vb = none)
    (hS : StAt H7 w7 G s S') (hG : ¬ G rb) (hGv : ¬ G vb) (hGF : ∀ k, G k → F k ∨ w.heap.size ≤ k) (X : Ext (fun k => k = vb) H7 w7 H7 w8) (C : w8.heap[vb]? = some (ivbox s c la lc f (if e = 0 then er else e))) (hr : r = Iv.fail ⟨S', f, e⟩ er) :
    FlexPost F vb s c la lc H w r (.returned (.agg #[.int .i64 0, .string ⟨#[]⟩, .int .i64 0, .slice none 0 0])) ((((w8.setCell ⟨rb, 0, none⟩ (.int .i64 0)).setCell ⟨rb, 1, none⟩ (.string ⟨#[]⟩)).setCell ⟨rb, 2, none⟩ (.int .i64 0)).setCell ⟨rb, 3, none⟩ (.slice none 0 0)) :=
  term_fin (Y := Tm.zero) (ya := none) (yc := 0) hrb hvb (E.trans X (fun k hk _ => .inl hk)) n7 C (hS.ext X (fun k hk hF => by subst hk; exact hGv hF)) hG hGF (rep_zero H7) (by rw [hr]; unfold Iv.fail; dsimp only; split <;> rfl)
/-- A store's own cells stay free where more joins what never changes. -/
theorem StAt.sub {H H' : GH} {w : World} {F : Nat → Prop} {s : Nat} {S : St} (h : StAt H w F s S) (hs : Sub H H') (hF : ∀ k, F k → H' k = H k) : StAt H' w F s S := by
  obtain ⟨vi, vt, h1, h2, h3, h4, h5, h6, h7⟩ := h
  exact ⟨vi, vt, h1, (hF s h3).trans h2, h3, h4.sub (fun g hg => (hF g (h6 g hg).1).trans (h4.free g hg)) (fun _ _ h => h.mono hs), h5.sub (fun g hg => (hF g (h7 g hg).1).trans (h5.free g hg)) (fun _ _ h => h), h6, h7⟩
/-- What term is asked, at a depth. -/
def TermAt (vb s : Nat) (c : Ic) (la : Option Addr) (lc M m : Nat) : Prop :=
  ∀ (F : Nat → Prop) (H : GH) (w : World) (S : St) (t : Tm) (cs : List Value) (k f e B : Int), f.toNat ≤ m → Agree H w → w.heap[vb]? = some (ivbox s c la lc f e) → H vb = none → ¬ F vb → StAt H w F s S → Tms H (.slice la c.L.length lc) c.L → Rep H t cs → Ask c M ⟨S, f, e⟩ t B → 0 ≤ k → k + f.toNat ≤ 1099511627776 → I64 f →
    Calls Try.prog 43 #[.pointer (some ⟨vb, 0, none⟩), .agg cs.toArray, .int .i64 k] w (FlexPost F vb s c la lc H w (c.termF m ⟨S, f, e⟩ t k))
theorem termF_stop {c : Ic} {m : Nat} {S : St} {f e k : Int} {t : Tm} (h : e ≠ 0 ∨ f ≤ 0) (hm : f.toNat ≤ m) : c.termF m ⟨S, f, e⟩ t k = if e ≠ 0 then (Tm.zero, ⟨S, f, e⟩) else Iv.fail ⟨S, f, e⟩ 80 := by
  cases m with
  | zero => rw [Ic.termF]
  | succ m =>
    rw [Ic.termF]
    by_cases he : e = 0
    · subst he
      have hf : f ≤ 0 := by rcases h with h | h; exact absurd rfl h; exact h
      simp [hf]
    · simp [he]
set_option maxHeartbeats 8000000 in
theorem invert_term_stop {F : Nat → Prop} (vb s : Nat) (c : Ic) (la : Option Addr) (lc m : Nat) (H : GH) (w : World) (S : St) (t : Tm) (cs : List Value) (k f e : Int) (hm : f.toNat ≤ m) (hA : Agree H w) (hvb : w.heap[vb]? = some (ivbox s c la lc f e)) (hH : H vb = none) (hvF : ¬ F vb) (hS : StAt H w F s S) (hR : Rep H t cs) (hst : e ≠ 0 ∨ f ≤ 0) :
    Calls Try.prog 43 #[.pointer (some ⟨vb, 0, none⟩), .agg cs.toArray, .int .i64 k] w (FlexPost F vb s c la lc H w (c.termF m ⟨S, f, e⟩ t k)) := by
  have ho := Lib.hid (termF_stop (c := c) (S := S) (k := k) (t := t) hst hm)
  obtain ⟨a, cap, rfl, -, -, -, -⟩ := hR.open_
  obtain ⟨E0, B0, B1, hn⟩ := enter1 t a cap H w hA
  have E0 := Lib.hid E0
  have B1 := Lib.hid B1
  have hn := Lib.hid hn
  have BV := Lib.hid (Below.blk (below_alloc _ zbox) (Below.blk (below_alloc _ (tbox t a cap)) hvb))
  have hz := cell_lt hvb
  have ST := Lib.hid (hS.tight.pure E0.out)
  obtain ⟨v0, v1, v2, v3, v4, v5, v6⟩ := box6 BV.out
  have hne : w.heap.size ≠ vb := by omega
  have hne1 : w.heap.size + 1 ≠ vb := by omega
  clear hR hS B0
  cases he : (e == 0) with
  | false =>
    have he1 : ¬ e = 0 := beq_eq_false_iff_ne.1 he
    rw [if_pos he1] at ho
    have he2 : (e != 0) = true := by rw [bne, he]; rfl
    clear he1 hst
    go_enter Try.func43, Try.ntmps43
    go_wp2_with fail
    refine bodyPost_ret (v := .agg #[.int .i64 0, .string ⟨#[]⟩, .int .i64 0, .slice none 0 0]) (by simp [results, Try.results43, go_sem]) rfl ?_
    rw [FlexPost, ho.out]
    exact ⟨H, _, rfl, E0.out.mono (fun _ h => h.elim), rep_zero H, BV.out, ST.out.mono (fun k hk => .inl hk.1)⟩
  | true =>
    have he1 : e = 0 := beq_iff_eq.1 he
    subst he1
    have hf : f ≤ 0 := by rcases hst with h | h; exact absurd rfl h; exact h
    rw [if_neg (by simp)] at ho
    have hfail := Lib.hid (invert_fail vb s c la lc H _ f 0 80 E0.out.agree BV.out hH)
    go_enter Try.func43, Try.ntmps43
    go_wp2_with fail
    refine hfail.out.mono ?_
    rintro e w2 ⟨rfl, X2, C2⟩
    have B2 := (X2.block (w.heap.size + 1) (cell_lt B1.out) hne1).trans B1.out
    obtain ⟨q0, q1, q2, q3, q4, q5, q6, q7, q8⟩ := box4 B2
    go_wp2_with fail
    refine bodyPost_ret (v := .agg #[.int .i64 0, .string ⟨#[]⟩, .int .i64 0, .slice none 0 0]) (by simp [results, Try.results43, go_sem, q0, q1, q2, q3, q4]) rfl ?_
    exact term_err (Nat.le_succ _) hz (E0.out.mono (fun _ h => h.elim)) hn.out hH ST.out (fun h => by have := h.2; omega) (fun h => hvF h.1) (fun k hk => .inl hk.1) X2 C2 ho.out
end Go.Proofs.Ytbdappbmlnpogaa
