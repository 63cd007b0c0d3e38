/- term.Shift, Subst. -/
import Derived.Test.YtbdappbmlnpogaaWalk
namespace Go.Proofs.Ytbdappbmlnpogaa
open Go Go.Proofs Go.RowKit
set_option maxRecDepth 100000
/-- A walk through a term, whatever its leaves become. -/
theorem term_walk (g : FuncId) (caps : Array Value) (eg : ∀ args w, (callFunc g args).run Try.prog w = .ok (.enter g args) w) (f : Tm → Int → Tm) (H0 : GH) (L : Tm → Int → Prop) (hleaf : LeafOK g caps f H0 L) (t : Tm) :
    ∀ (d : Int) (cs : List Value) (H : GH) (w : World), t.shp = true → (∀ p ∈ t.leaves d, L p.1 p.2) → 0 ≤ d → d + t.size ≤ 4611686018427387904 → t.size ≤ LB → (t.walk f d).size ≤ LB → Sub H0 H → Agree H w → Rep H t cs →
    Calls Try.prog 100 #[.agg #[.func (.func g) #[] caps], .agg cs.toArray, .int .i64 d] w fun e w' => ∃ H' cs', e = .returned (.agg cs'.toArray) ∧ Pure H w H' w' ∧ Rep H' (t.walk f d) cs' := by
  induction t using Tm.ind with
  | h k s n l ih =>
    intro d cs H w hs hL hd0 hd1 hsz hsw hs0 hA hR
    by_cases hk : k = 5 ∨ k = 6
    · have hlv : (Tm.mk k s n l).leaves d = Tm.leavesL l (d + if k = 5 then 1 else 0) := by rw [Tm.leaves, if_pos hk]
      have hs' := hs
      rw [Tm.shp_mk, Bool.and_eq_true, Tm.shpL_iff] at hs'
      have hso := walk_size f _ d k s n l rfl hk
      have hLu : ∀ u ∈ l, ∀ p ∈ u.leaves (d + if k = 5 then 1 else 0), L p.1 p.2 := fun u hu p hp => hL p (by rw [hlv]; exact leaves_of_mem hu _ hp)
      have hD : (d + if k = 5 then 1 else 0) = d ∨ (d + if k = 5 then 1 else 0) = d + 1 := by split <;> simp
      refine walk_inner g caps f k s n l d hk cs H w hA hR hs ⟨hd0, hd1⟩ hsz hsw (fun u hu => walk_hd6 f u _ (hs'.2 u hu) (fun p hp => (hleaf p.1 p.2 (hLu u hu p hp)).1)) (fun u hu cs' H' w' hs1 hA' hR' => ?_)
      have h1 := Tm.size_lt (k := k) (s := s) (n := n) hu
      have h2 : (u.walk f (d + if k = 5 then 1 else 0)).size ≤ Tm.sizeL (Tm.walkL f l (d + if k = 5 then 1 else 0)) := by
        rw [Tm.walkL_map]
        exact Tm.size_le_sizeL (List.mem_map.2 ⟨u, hu, rfl⟩)
      exact ih u hu _ cs' H' w' (hs'.2 u hu) (hLu u hu) (by omega) (by omega) (by omega) (by omega) (hs0.trans hs1) hA' hR'
    · have hw : (Tm.mk k s n l).walk f d = f (.mk k s n l) d := by rw [Tm.walk_mk, if_neg hk]
      rw [hw]
      exact walk_leaf g caps eg f H0 L hleaf (.mk k s n l) d hk (hL (.mk k s n l, d) (by rw [Tm.leaves, if_neg hk]; simp)) cs H w hs0 hA hR

/-- What is asked of a leaf that is moved. -/
def ShiftL (from_ by_ : Int) (u : Tm) (d : Int) : Prop := u.hd6 ∧ u.size ≤ LB ∧ I64 (d + from_) ∧ (u.k = 3 → I64 (u.n + by_))
theorem shift1_leaf (from_ by_ : Int) (b1 b2 : Nat) (H0 : GH) (h1 : H0.cell? ⟨b1, 0, none⟩ = some (.int .i64 from_)) (h2 : H0.cell? ⟨b2, 0, none⟩ = some (.int .i64 by_)) :
    LeafOK 98 #[.pointer (some ⟨b1, 0, none⟩), .pointer (some ⟨b2, 0, none⟩)] (Tm.shiftF from_ by_) H0 (ShiftL from_ by_) := by
  intro u d ⟨hh, hsz, hdf, hnb⟩
  have hfk : (Tm.shiftF from_ by_ u d).hd6 := by
    unfold Tm.shiftF
    split
    · exact hh
    · exact hh
  have hfs : (Tm.shiftF from_ by_ u d).size = u.size := by
    unfold Tm.shiftF
    split
    · cases u; rfl
    · rfl
  refine ⟨hfk, by omega, fun cs H w hs hA hR => ?_⟩
  have hR' := hR
  obtain ⟨a, cap, rfl, -, -, -, -⟩ := hR.open_
  have c1 := hA.cell (GH.cell?_mono hs h1)
  have c2 := hA.cell (GH.cell?_mono hs h2)
  have l1 := World.block_lt_of_cell? w _ c1
  have l2 := World.block_lt_of_cell? w _ c2
  have hdf' := hdf
  unfold I64 at hdf'
  obtain ⟨d1, d2⟩ := hdf'
  have hw := IntWalk.i64_in (d + from_) (by omega)
  have hRN : ∀ (w1 : World), Pure H w H w1 → (e : Ending) → e = .returned (.agg #[.int .i64 u.k, .string u.s, .int .i64 u.n, .slice a u.l.length cap]) → ¬ (u.k = 3 ∧ d + from_ ≤ u.n) → ∃ H' cs', e = .returned (.agg cs'.toArray) ∧ Pure H w H' w1 ∧ Rep H' (Tm.shiftF from_ by_ u d) cs' := by
    intro w1 hx e he hn
    refine ⟨H, _, he, hx, ?_⟩
    unfold Tm.shiftF
    rw [if_neg hn]
    exact hR'
  have HN := Lib.hid hRN
  clear hRN
  by_cases hk3 : u.k = 3
  · have b3 : (u.k == 3) = true := by rw [beq_iff_eq]; exact hk3
    by_cases hge : d + from_ ≤ u.n
    · have hmv := Lib.hid (fun W hW => term_moved u _ by_ H W hR hW (hnb hk3))
      have hsf : Tm.shiftF from_ by_ u d = Tm.moved u by_ := by unfold Tm.shiftF; rw [if_pos ⟨hk3, hge⟩]
      have HSF := Lib.hid hsf
      clear hsf hk3 hnb
      go_enter Try.func98, Try.ntmps98
      go_wp2_with fail
      refine (hmv.out _ ((hA.alloc _).alloc _)).mono ?_
      rintro e w1 ⟨cs1, rfl, R1, hb1⟩
      have E1 := (((Ext.refl hA).alloc (.cells #[.int .i64 u.k, .string u.s, .int .i64 u.n, .slice a u.l.length cap] 30)).alloc (.cells #[.int .i64 0, .string ⟨#[]⟩, .int .i64 0, .slice none 0 0] 30)).then_below (O := fun _ => False) hb1
      have hn1 : H (w.heap.size + 1) = none := hA.free (by omega)
      obtain ⟨hc1, hf1⟩ := bcell hb1
      generalize hY : Tm.moved u by_ = Y at R1
      have HY := Lib.hid hY
      clear hY
      obtain ⟨ra, rc, rfl, -, -, -, -⟩ := R1.open_
      go_wp2_with fail
      have hE := E1.store4 hn1 (by omega) (.int .i64 Y.k) (.string Y.s) (.int .i64 Y.n) (.slice ra Y.l.length rc)
      refine bodyPost_ret (v := .agg #[.int .i64 Y.k, .string Y.s, .int .i64 Y.n, .slice ra Y.l.length rc]) (by simp [results, Try.results98, go_sem, hc1]) rfl ⟨H, _, rfl, hE, ?_⟩
      rw [HSF.out, HY.out]
      exact R1
    · have HG := Lib.hid (show ¬ (u.k = 3 ∧ d + from_ ≤ u.n) from fun h => hge h.2)
      clear hk3
      go_enter Try.func98, Try.ntmps98
      go_wp2_with fail
      exact bodyPost_ret (v := .agg #[.int .i64 u.k, .string u.s, .int .i64 u.n, .slice a u.l.length cap]) (by simp [results, Try.results98, go_sem]) rfl (HN.out _ (((Ext.refl hA).alloc _).alloc _) _ rfl HG.out)
  · have b3 : (u.k == 3) = false := by rw [beq_eq_false_iff_ne]; exact hk3
    have HG := Lib.hid (show ¬ (u.k = 3 ∧ d + from_ ≤ u.n) from fun h => hk3 h.1)
    clear hk3
    go_enter Try.func98, Try.ntmps98
    go_wp2_with fail
    exact bodyPost_ret (v := .agg #[.int .i64 u.k, .string u.s, .int .i64 u.n, .slice a u.l.length cap]) (by simp [results, Try.results98, go_sem]) rfl (HN.out _ (((Ext.refl hA).alloc _).alloc _) _ rfl HG.out)

theorem gh_box (H : GH) (g : Nat) (v : Value) (T : TypeId) : (H.put g (.cells #[v] T (0, 0))).cell? ⟨g, 0, none⟩ = some v := by simp [GH.cell?, GH.put_same]
theorem gh_cell_put {H : GH} {g : Nat} {o : Obj} {a : Addr} (h : a.block ≠ g) : (H.put g o).cell? a = H.cell? a := by simp [GH.cell?, GH.put_other _ _ h]
set_option maxHeartbeats 1000000 in
/-- term.Shift. -/
theorem term_Shift (t : Tm) (from_ by_ : Int) (cs : List Value) (H : GH) (w : World) (hs : t.shp = true) (hsz : t.size ≤ LB) (hsw : (t.shift from_ by_).size ≤ LB) (hL : ∀ p ∈ t.leaves 0, ShiftL from_ by_ p.1 p.2) (hA : Agree H w) (hR : Rep H t cs) :
    Calls Try.prog 90 #[.agg cs.toArray, .int .i64 from_, .int .i64 by_] w fun e w' => ∃ H' cs', e = .returned (.agg cs'.toArray) ∧ Pure H w H' w' ∧ Rep H' (t.shift from_ by_) cs' := by
  have hn : ∀ k, w.heap.size ≤ k → H k = none := fun k hk => hA.free hk
  have hH1 : Sub H ((H.put (w.heap.size + 1) (.cells #[.int .i64 from_] 3)).put (w.heap.size + 1 + 1) (.cells #[.int .i64 by_] 3)) :=
    (GH.sub_put (hn _ (by omega)) _).trans (GH.sub_put (by rw [GH.put_other _ _ (by omega)]; exact hn _ (by omega)) _)
  have hleaf := shift1_leaf from_ by_ (w.heap.size + 1) (w.heap.size + 1 + 1) ((H.put (w.heap.size + 1) (.cells #[.int .i64 from_] 3)).put (w.heap.size + 1 + 1) (.cells #[.int .i64 by_] 3)) (by rw [gh_cell_put (by simp)]; exact gh_box _ _ _ _) (gh_box _ _ _ _)
  have hlb : LB = 2513169434916 := rfl
  have hwalk := Lib.hid (fun W hA hR => term_walk 98 _ (by intro args w; go_simp) _ _ _ hleaf t 0 cs _ W hs hL (by omega) (by omega) hsz hsw (Sub.refl _) hA hR)
  have HN := Lib.hid hn
  have HR := Lib.hid hR
  clear hn hleaf hlb
  obtain ⟨a, cap, rfl, -, -, -, -⟩ := hR.open_
  go_enter Try.func90, Try.ntmps90
  go_wp2_with fail
  refine (hwalk.out _ ?agr (HR.out.mono hH1)).mono ?_
  case agr => exact (Agree.put ((((hA.alloc _).alloc _).alloc _).alloc _) ((Below.heap_alloc _ _ _ (by simp)).trans ((Below.heap_alloc _ _ _ (by simp)).trans (heap_alloc_at _ _ _ (by simp))))).put ((Below.heap_alloc _ _ _ (by simp)).trans (heap_alloc_at _ _ _ (by simp)))
  rintro e w1 ⟨H2, cs2, rfl, X, R2⟩
  have E0 : Pure H w H _ := ((((Ext.refl hA).alloc (.cells #[.int .i64 t.k, .string t.s, .int .i64 t.n, .slice a t.l.length cap] 30)).alloc (.cells #[.int .i64 from_] 3)).alloc (.cells #[.int .i64 by_] 3)).alloc (.cells #[.int .i64 0, .string ⟨#[]⟩, .int .i64 0, .slice none 0 0] 30)
  have E1 := (((E0.put (g := w.heap.size + 1) ((Below.heap_alloc _ _ _ (by simp)).trans ((Below.heap_alloc _ _ _ (by simp)).trans (heap_alloc_at _ _ _ (by simp)))) (HN.out _ (by omega)) (by omega)).put (g := w.heap.size + 1 + 1) ((Below.heap_alloc _ _ _ (by simp)).trans (heap_alloc_at _ _ _ (by simp))) (by rw [GH.put_other _ _ (by omega)]; exact HN.out _ (by omega)) (by omega)).then X)
  have hn3 : H2 (w.heap.size + 1 + 1 + 1) = none := by
    rw [X.old _ (by simp), GH.put_other _ _ (by omega), GH.put_other _ _ (by omega)]
    exact HN.out _ (by omega)
  obtain ⟨hc1, hf1⟩ := bcell X.below
  generalize hY : Tm.walk (Tm.shiftF from_ by_) t 0 = Y at R2
  have HY := Lib.hid (show t.shift from_ by_ = Y from hY)
  clear hY hwalk
  obtain ⟨ra, rc, rfl, -, -, -, -⟩ := R2.open_
  go_wp2_with fail
  have hE := E1.store4 hn3 (by omega) (.int .i64 Y.k) (.string Y.s) (.int .i64 Y.n) (.slice ra Y.l.length rc)
  refine bodyPost_ret (v := .agg #[.int .i64 Y.k, .string Y.s, .int .i64 Y.n, .slice ra Y.l.length rc]) (by simp [results, Try.results90, go_sem, hc1]) rfl ⟨H2, _, rfl, hE, ?_⟩
  rw [HY.out]
  exact R2
end Go.Proofs.Ytbdappbmlnpogaa
