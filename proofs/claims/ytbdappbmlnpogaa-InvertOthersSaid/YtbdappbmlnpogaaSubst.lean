/- term.Subst. -/
import Derived.Test.YtbdappbmlnpogaaShift
namespace Go.Proofs.Ytbdappbmlnpogaa
open Go Go.Proofs Go.RowKit
set_option maxRecDepth 100000
theorem moved_size (u : Tm) (b : Int) : (Tm.moved u b).size = u.size := by cases u; rfl
theorem shift_hd6 (s : Tm) (a b : Int) (hs : s.shp = true) (hl : ∀ p ∈ s.leaves 0, p.1.hd6) : (s.shift a b).hd6 := by
  refine walk_hd6 _ s 0 hs (fun p hp => ?_)
  have := hl p hp
  unfold Tm.shiftF
  split <;> exact this
def ShiftOK (s : Tm) (a b : Int) : Prop := s.shp = true ∧ s.size ≤ LB ∧ (s.shift a b).size ≤ LB ∧ ∀ p ∈ s.leaves 0, ShiftL a b p.1 p.2
/-- What is asked of a leaf that is looked at. -/
def SubstL (i : Int) (s u : Tm) (d : Int) : Prop := u.hd6 ∧ u.size ≤ LB ∧ I64 (d + i) ∧ (u.k = 3 → I64 (u.n + -1)) ∧ (u.k = 3 → u.n = d + i → ShiftOK s 0 d)
set_option maxHeartbeats 1000000 in
theorem subst1_leaf (i : Int) (s : Tm) (b1 b2 : Nat) (scs : List Value) (H0 : GH) (h1 : H0.cell? ⟨b1, 0, none⟩ = some (.int .i64 i)) (h2 : ∀ j v, scs[j]? = some v → H0.cell? ⟨b2, j, none⟩ = some v) (hRs : Rep H0 s scs) :
    LeafOK 105 #[.pointer (some ⟨b1, 0, none⟩), .pointer (some ⟨b2, 0, none⟩)] (Tm.substF i s) H0 (SubstL i s) := by
  intro u d ⟨hh, hsz, hdf, hnb, hsk⟩
  have hres : (Tm.substF i s u d).hd6 ∧ (Tm.substF i s u d).size ≤ LB := by
    unfold Tm.substF
    split
    · exact ⟨hh, hsz⟩
    · rename_i h0
      split
      · rename_i h3
        have hk : u.k = 3 := by
          rcases Decidable.em (u.k = 3) with h | h
          · exact h
          · exact absurd (.inl h) h0
        obtain ⟨g1, g2, g3, g4⟩ := hsk hk h3
        exact ⟨shift_hd6 s 0 d g1 (fun p hp => (g4 p hp).1), g3⟩
      · exact ⟨hh, by rw [moved_size]; exact hsz⟩
  refine ⟨hres.1, hres.2, fun cs H w hs hA hR => ?_⟩
  clear hres
  have hR' := hR
  obtain ⟨a, cap, rfl, -, -, -, -⟩ := hR.open_
  have hRs' := hRs.mono hs
  obtain ⟨sa, sc, rfl, -, -, -, -⟩ := hRs.open_
  have c1 := hA.cell (GH.cell?_mono hs h1)
  have e0 := hA.cell (GH.cell?_mono hs (h2 0 _ rfl))
  have e1 := hA.cell (GH.cell?_mono hs (h2 1 _ rfl))
  have e2 := hA.cell (GH.cell?_mono hs (h2 2 _ rfl))
  have e3 := hA.cell (GH.cell?_mono hs (h2 3 _ rfl))
  have l1 := World.block_lt_of_cell? w _ c1
  have l2 := World.block_lt_of_cell? w _ e0
  clear h1 h2
  have hdf' := hdf
  unfold I64 at hdf'
  obtain ⟨d1, d2⟩ := hdf'
  have hw := IntWalk.i64_in (d + i) (by omega)
  have hRN : ∀ (w1 : World), Pure H w H w1 → (e : Ending) → e = .returned (.agg #[.int .i64 u.k, .string u.s, .int .i64 u.n, .slice a u.l.length cap]) → (u.k ≠ 3 ∨ u.n < d + i) → ∃ H' cs', e = .returned (.agg cs'.toArray) ∧ Pure H w H' w1 ∧ Rep H' (Tm.substF i s u d) cs' := by
    intro w1 hx e he hn
    refine ⟨H, _, he, hx, ?_⟩
    unfold Tm.substF
    rw [if_pos hn]
    exact hR'
  have HN := Lib.hid hRN
  clear hRN
  by_cases hk3 : u.k = 3
  · have b3 : (u.k != 3) = false := by rw [bne_eq_false_iff_eq]; exact hk3
    by_cases hlt : u.n < d + i
    · have HG := Lib.hid (show u.k ≠ 3 ∨ u.n < d + i from .inr hlt)
      clear hk3
      go_enter Try.func105, Try.ntmps105
      go_wp2_with fail
      exact bodyPost_ret (v := .agg #[.int .i64 u.k, .string u.s, .int .i64 u.n, .slice a u.l.length cap]) (by simp [results, Try.results105, go_sem]) rfl (HN.out _ (((Ext.refl hA).alloc _).alloc _) _ rfl HG.out)
    · by_cases heq : u.n = d + i
      · have hb : (u.n == d + i) = true := by rw [beq_iff_eq]; exact heq
        obtain ⟨g1, g2, g3, g4⟩ := hsk hk3 heq
        have hsf : Tm.substF i s u d = s.shift 0 d := by
          unfold Tm.substF
          rw [if_neg (fun h => h.elim (fun h => h hk3) hlt), if_pos heq]
        have hsh := Lib.hid (fun W hW => term_Shift s 0 d _ H W g1 g2 g3 g4 hW hRs')
        have HSF := Lib.hid hsf
        clear hsf hk3 heq hsk hnb g4
        go_enter Try.func105, Try.ntmps105
        go_wp2_with fail
        refine (hsh.out _ ((hA.alloc _).alloc _)).mono ?_
        rintro e w1 ⟨H2, cs2, rfl, X, R1⟩
        have E1 := (((Ext.refl hA).alloc (.cells #[.int .i64 u.k, .string u.s, .int .i64 u.n, .slice a u.l.length cap] 30)).alloc (.cells #[.int .i64 0, .string ⟨#[]⟩, .int .i64 0, .slice none 0 0] 30)).then (O := fun _ => False) X
        have hn1 : H2 (w.heap.size + 1) = none := (X.old _ (by simp)).trans (hA.free (by omega))
        obtain ⟨hc1, hf1⟩ := bcell X.below
        generalize hY : s.shift 0 d = Y at R1
        have HY := Lib.hid hY
        clear hY hsh
        obtain ⟨ra, rc, rfl, -, -, -, -⟩ := R1.open_
        go_wp2_with fail
        have hE := E1.store4 hn1 (by omega) (.int .i64 Y.k) (.string Y.s) (.int .i64 Y.n) (.slice ra Y.l.length rc)
        refine bodyPost_ret (v := .agg #[.int .i64 Y.k, .string Y.s, .int .i64 Y.n, .slice ra Y.l.length rc]) (by simp [results, Try.results105, go_sem, hc1]) rfl ⟨H2, _, rfl, hE, ?_⟩
        rw [HSF.out, HY.out]
        exact R1
      · have hb : (u.n == d + i) = false := by rw [beq_eq_false_iff_ne]; exact heq
        have hmv := Lib.hid (fun W hW => term_moved u _ (-1) H W hR hW (hnb hk3))
        have hsf : Tm.substF i s u d = Tm.moved u (-1) := by
          unfold Tm.substF
          rw [if_neg (fun h => h.elim (fun h => h hk3) hlt), if_neg heq]
        have HSF := Lib.hid hsf
        clear hsf hk3 heq hsk hnb
        go_enter Try.func105, Try.ntmps105
        go_wp2_with fail
        refine (hmv.out _ ((hA.alloc _).alloc _)).mono ?_
        rintro e w1 ⟨cs1, rfl, R1, hb1⟩
        have E1 := (((Ext.refl hA).alloc (.cells #[.int .i64 u.k, .string u.s, .int .i64 u.n, .slice a u.l.length cap] 30)).alloc (.cells #[.int .i64 0, .string ⟨#[]⟩, .int .i64 0, .slice none 0 0] 30)).then_below (O := fun _ => False) hb1
        have hn1 : H (w.heap.size + 1) = none := hA.free (by omega)
        obtain ⟨hc1, hf1⟩ := bcell hb1
        generalize hY : Tm.moved u (-1) = Y at R1
        have HY := Lib.hid hY
        clear hY hmv
        obtain ⟨ra, rc, rfl, -, -, -, -⟩ := R1.open_
        go_wp2_with fail
        have hE := E1.store4 hn1 (by omega) (.int .i64 Y.k) (.string Y.s) (.int .i64 Y.n) (.slice ra Y.l.length rc)
        refine bodyPost_ret (v := .agg #[.int .i64 Y.k, .string Y.s, .int .i64 Y.n, .slice ra Y.l.length rc]) (by simp [results, Try.results105, go_sem, hc1]) rfl ⟨H, _, rfl, hE, ?_⟩
        rw [HSF.out, HY.out]
        exact R1
  · have b3 : (u.k != 3) = true := by rw [bne_iff_ne]; exact hk3
    have HG := Lib.hid (show u.k ≠ 3 ∨ u.n < d + i from .inl hk3)
    clear hk3
    go_enter Try.func105, Try.ntmps105
    go_wp2_with fail
    exact bodyPost_ret (v := .agg #[.int .i64 u.k, .string u.s, .int .i64 u.n, .slice a u.l.length cap]) (by simp [results, Try.results105, go_sem]) rfl (HN.out _ (((Ext.refl hA).alloc _).alloc _) _ rfl HG.out)
set_option maxHeartbeats 1000000 in
/-- term.Subst. -/
theorem term_Subst (t : Tm) (i : Int) (s : Tm) (cs scs : List Value) (H : GH) (w : World) (hs : t.shp = true) (hsz : t.size ≤ LB) (hsw : (t.subst i s).size ≤ LB) (hL : ∀ p ∈ t.leaves 0, SubstL i s p.1 p.2) (hA : Agree H w) (hR : Rep H t cs) (hRs : Rep H s scs) :
    Calls Try.prog 104 #[.agg cs.toArray, .int .i64 i, .agg scs.toArray] w fun e w' => ∃ H' cs', e = .returned (.agg cs'.toArray) ∧ Pure H w H' w' ∧ Rep H' (t.subst i s) cs' := by
  have hn : ∀ k, w.heap.size ≤ k → H k = none := fun k hk => hA.free hk
  have hH1 : Sub H ((H.put (w.heap.size + 1) (.cells #[.int .i64 i] 3)).put (w.heap.size + 1 + 1) (.cells scs.toArray 30)) :=
    (GH.sub_put (hn _ (by omega)) _).trans (GH.sub_put (by rw [GH.put_other _ _ (by omega)]; exact hn _ (by omega)) _)
  have hleaf := subst1_leaf i s (w.heap.size + 1) (w.heap.size + 1 + 1) scs ((H.put (w.heap.size + 1) (.cells #[.int .i64 i] 3)).put (w.heap.size + 1 + 1) (.cells scs.toArray 30)) (by rw [gh_cell_put (by simp)]; exact gh_box _ _ _ _) (fun j v hv => by simpa [GH.cell?, GH.put_same] using hv) (hRs.mono hH1)
  have hlb : LB = 2513169434916 := rfl
  have hwalk := Lib.hid (fun W hA hR => term_walk 105 _ (by intro args w; go_simp) _ _ _ hleaf t 0 cs _ W hs hL (by omega) (by omega) hsz hsw (Sub.refl _) hA hR)
  have HN := Lib.hid hn
  have HR := Lib.hid hR
  clear hn hleaf hlb
  obtain ⟨a, cap, rfl, -, -, -, -⟩ := hR.open_
  obtain ⟨sa, sc, rfl, -, -, -, -⟩ := hRs.open_
  go_enter Try.func104, Try.ntmps104
  go_wp2_with fail
  refine (hwalk.out _ ?agr (HR.out.mono hH1)).mono ?_
  case agr => exact (Agree.put ((((hA.alloc _).alloc _).alloc _).alloc _) ((Below.heap_alloc _ _ _ (by simp)).trans ((Below.heap_alloc _ _ _ (by simp)).trans (heap_alloc_at _ _ _ (by simp))))).put ((Below.heap_alloc _ _ _ (by simp)).trans (heap_alloc_at _ _ _ (by simp)))
  rintro e w1 ⟨H2, cs2, rfl, X, R2⟩
  have E0 : Pure H w H _ := ((((Ext.refl hA).alloc (.cells #[.int .i64 t.k, .string t.s, .int .i64 t.n, .slice a t.l.length cap] 30)).alloc (.cells #[.int .i64 i] 3)).alloc (.cells #[.int .i64 s.k, .string s.s, .int .i64 s.n, .slice sa s.l.length sc] 30)).alloc (.cells #[.int .i64 0, .string ⟨#[]⟩, .int .i64 0, .slice none 0 0] 30)
  have E1 := (((E0.put (g := w.heap.size + 1) ((Below.heap_alloc _ _ _ (by simp)).trans ((Below.heap_alloc _ _ _ (by simp)).trans (heap_alloc_at _ _ _ (by simp)))) (HN.out _ (by omega)) (by omega)).put (g := w.heap.size + 1 + 1) ((Below.heap_alloc _ _ _ (by simp)).trans (heap_alloc_at _ _ _ (by simp))) (by rw [GH.put_other _ _ (by omega)]; exact HN.out _ (by omega)) (by omega)).then X)
  have hn3 : H2 (w.heap.size + 1 + 1 + 1) = none := by
    rw [X.old _ (by simp), GH.put_other _ _ (by omega), GH.put_other _ _ (by omega)]
    exact HN.out _ (by omega)
  obtain ⟨hc1, hf1⟩ := bcell X.below
  generalize hY : Tm.walk (Tm.substF i s) t 0 = Y at R2
  have HY := Lib.hid (show t.subst i s = Y from hY)
  clear hY hwalk
  obtain ⟨ra, rc, rfl, -, -, -, -⟩ := R2.open_
  go_wp2_with fail
  have hE := E1.store4 hn3 (by omega) (.int .i64 Y.k) (.string Y.s) (.int .i64 Y.n) (.slice ra Y.l.length rc)
  refine bodyPost_ret (v := .agg #[.int .i64 Y.k, .string Y.s, .int .i64 Y.n, .slice ra Y.l.length rc]) (by simp [results, Try.results104, go_sem, hc1]) rfl ⟨H2, _, rfl, hE, ?_⟩
  rw [HY.out]
  exact R2
end Go.Proofs.Ytbdappbmlnpogaa
