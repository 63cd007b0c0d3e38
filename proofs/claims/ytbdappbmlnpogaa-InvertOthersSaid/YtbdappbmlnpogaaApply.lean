/- term.Apply, term.Lams. -/
import Derived.Test.YtbdappbmlnpogaaCat
namespace Go.Proofs.Ytbdappbmlnpogaa
open Go Go.Proofs Go.RowKit
set_option maxRecDepth 100000
set_option maxHeartbeats 1000000 in
theorem apply_nil (f : Tm) (cs : List Value) (H : GH) (w : World) (a : Option Addr) (cap : Nat) (hf : Rep H f cs) (hA : Agree H w) :
    Calls Try.prog 14 #[.agg cs.toArray, .slice a 0 cap] w fun e w' => e = .returned (.agg cs.toArray) ∧ Below w.heap.size w w' := by
  obtain ⟨fa, fc, rfl, hk, hn, hs, hl⟩ := hf.open_
  go_enter Try.func14, Try.ntmps14
  go_wp2_with fail
  exact bodyPost_ret (v := .agg #[.int .i64 f.k, .string f.s, .int .i64 f.n, .slice fa f.l.length fc]) (by simp [results, Try.results14, go_sem]) rfl ⟨rfl, ((Below.refl _ _).alloc (Nat.le_refl _) _).alloc (by simp) _⟩
theorem sl_two {H : GH} {g : Nat} {T : TypeId} {u1 u2 : Value} {l1 l2 : List Tm} (hg : H g = some (.cells #[u1, u2] T (0, 0))) (h1 : Tms H u1 l1) (h2 : Tms H u2 l2) : Tmss H (.slice (some ⟨g, 0, none⟩) 2 2) [l1, l2] := by
  refine ⟨some ⟨g, 0, none⟩, 2, fun i => if i = 0 then [u1] else [u2], rfl, by simp, by unfold maxLen; omega, fun _ => ⟨g, 0, rfl, fun i hi => ?_⟩, fun i x hi => ?_⟩
  · have hi' : i = 0 ∨ i = 1 := by simp at hi; omega
    rcases hi' with rfl | rfl
    · refine ⟨rfl, fun j u hu => ?_⟩
      cases j with
      | zero => simp at hu; subst hu; simp [GH.cell?, hg]
      | succ j => simp at hu
    · refine ⟨rfl, fun j u hu => ?_⟩
      cases j with
      | zero => simp at hu; subst hu; simp [GH.cell?, hg]
      | succ j => simp at hu
  · match i with
    | 0 => simp at hi; subst hi; exact ⟨u1, rfl, h1⟩
    | 1 => simp at hi; subst hi; exact ⟨u2, rfl, h2⟩
    | i + 2 => simp at hi
theorem heap_alloc_two (w : World) (a b : Obj) : ((w.alloc a).alloc b).heap[w.heap.size + 1]? = some b := by
  have := heap_alloc_new (w.alloc a) b
  simpa using this
set_option maxHeartbeats 2000000 in
theorem apply_app (f : Tm) (cs : List Value) (args : List Tm) (H : GH) (w : World) (a : Option Addr) (cap : Nat) (hf : Rep H f cs) (ha : Tms H (.slice a args.length cap) args) (hne : 0 < args.length) (hk6 : f.k = 6) (hl0 : 0 < f.l.length) (hA : Agree H w) (hlen : (f.l.length + args.length) * 56 ≤ 140737488355328) :
    Calls Try.prog 14 #[.agg cs.toArray, .slice a args.length cap] w fun e w' => ∃ H' v, e = .returned (.agg #[.int .i64 6, .string ByteArray.empty, .int .i64 0, v]) ∧ Pure H w H' w' ∧ Tms H' v (f.l ++ args) := by
  obtain ⟨fa, fc, rfl, hk, hn, hs, hl⟩ := hf.open_
  rw [hk6]
  have h6 : ((6 : Int) == 6) = true := rfl
  have hna : (args.length == 0) = false := by rw [beq_eq_false_iff_ne]; omega
  have hna' : ((args.length : Int) == 0) = false := by rw [beq_eq_false_iff_ne]; omega
  clear hk6 hk
  go_enter Try.func14, Try.ntmps14
  go_wp2_with fail
  refine (slices_Concat (H.put (w.heap.size + 1 + 1 + 1) (.cells #[.slice fa f.l.length fc, .slice a args.length cap] 24)) _ ?agr _ [f.l, args] (sl_two (GH.put_same _ _ _) (hl.mono (GH.sub_put (hA.free (by omega)) _)) (ha.mono (GH.sub_put (hA.free (by omega)) _))) (by simpa using hlen)).mono ?_
  case agr => exact ((((hA.alloc _).alloc _).alloc _).alloc _).put (heap_alloc_at _ _ _ (by simp))
  rintro e w1 ⟨v1, rfl, own1, hb1⟩
  obtain ⟨hc1, hf1⟩ := bcell hb1
  have E0 : Pure H w H _ := ((((Ext.refl hA).alloc (.cells #[.int .i64 6, .string f.s, .int .i64 f.n, .slice fa f.l.length fc] 30)).alloc (.cells #[.int .i64 0, .string ⟨#[]⟩, .int .i64 0, .slice none 0 0] 30)).alloc (.cells #[.int .i64 6, .string f.s, .int .i64 f.n, .slice fa f.l.length fc] 30)).alloc (.cells #[.slice fa f.l.length fc, .slice a args.length cap] 24)
  have E1 := (E0.put (heap_alloc_at _ _ (w.heap.size + 1 + 1 + 1) (by simp)) (hA.free (by omega)) (by omega)).then_below hb1
  obtain ⟨H2, E2, hs2, ho2, ht2⟩ := own1.freeze_ext E1 (by simp; omega) (fun _ _ h => h.len)
  obtain ⟨va, vc, rfl, -, -⟩ := own1.form
  have hn2 : H2 (w.heap.size + 1) = none := by
    rw [ho2 _ (by simp), GH.put_other _ _ (by omega)]
    exact hA.free (by omega)
  go_wp2_with fail
  have E3 := (((E2.setCell (p := ⟨w.heap.size + 1, 0, none⟩) hn2 (fun h => absurd h (by simp)) (.int .i64 6)).setCell (p := ⟨w.heap.size + 1, 1, none⟩) hn2 (fun h => absurd h (by simp)) (.string ⟨#[]⟩)).setCell (p := ⟨w.heap.size + 1, 2, none⟩) hn2 (fun h => absurd h (by simp)) (.int .i64 0)).setCell (p := ⟨w.heap.size + 1, 3, none⟩) hn2 (fun h => absurd h (by simp)) (.slice va (f.l.length + args.length) vc)
  have hlen2 : [f.l, args].flatten.length = f.l.length + args.length := by simp
  rw [hlen2] at ht2
  refine bodyPost_ret (v := .agg #[.int .i64 6, .string ByteArray.empty, .int .i64 0, .slice va (f.l.length + args.length) vc]) (by simp [results, Try.results14, go_sem, hc1]; rfl) rfl ⟨H2, _, rfl, E3, by simpa using Sl.mono (Sub.refl H2) (fun _ _ _ h => Rep.mono hs2 h) ht2⟩
theorem tms_box {H : GH} {g : Nat} {E : TypeId} {cells : Array Value} {t : Tm} {c : Nat} (hg : H g = some (.cells cells E (0, 0))) (hR : Rep H t cells.toList) (hc1 : 1 ≤ c) (hc2 : c ≤ maxLen) : Tms H (.slice (some ⟨g, 0, none⟩) 1 c) [t] := by
  refine ⟨some ⟨g, 0, none⟩, c, fun _ => cells.toList, rfl, hc1, hc2, fun _ => ⟨g, 0, rfl, fun i hi => ⟨hR.len, fun j u hu => ?_⟩⟩, fun i x hi => ?_⟩
  · have : i = 0 := by simpa using hi
    subst this
    simpa [GH.cell?, hg] using hu
  · cases i with
    | zero => simp at hi; subst hi; exact hR
    | succ i => simp at hi
set_option maxHeartbeats 2000000 in
theorem apply_one (f : Tm) (cs : List Value) (args : List Tm) (H : GH) (w : World) (a : Option Addr) (cap : Nat) (hf : Rep H f cs) (ha : Tms H (.slice a args.length cap) args) (hne : 0 < args.length) (hk6 : f.k ≠ 6) (hA : Agree H w) (hlen : (args.length + 1) * 56 ≤ 140737488355328) :
    Calls Try.prog 14 #[.agg cs.toArray, .slice a args.length cap] w fun e w' => ∃ H' v, e = .returned (.agg #[.int .i64 6, .string ByteArray.empty, .int .i64 0, v]) ∧ Pure H w H' w' ∧ Tms H' v (f :: args) := by
  obtain ⟨fa, fc, rfl, hk, hn, hs, hl⟩ := hf.open_
  have h6 : (f.k == 6) = false := by rw [beq_eq_false_iff_ne]; exact hk6
  have hna : (args.length == 0) = false := by rw [beq_eq_false_iff_ne]; omega
  have hna' : ((args.length : Int) == 0) = false := by rw [beq_eq_false_iff_ne]; omega
  clear hk6 hk
  go_enter Try.func14, Try.ntmps14
  go_wp2_with fail
  have hsub : Sub H ((H.put (w.heap.size + 1 + 1) (.cells #[.int .i64 f.k, .string f.s, .int .i64 f.n, .slice fa f.l.length fc] 30)).put (w.heap.size + 1 + 1 + 1) (.cells #[.slice (some ⟨w.heap.size + 1 + 1, 0, none⟩) 1 1, .slice a args.length cap] 24)) :=
    (GH.sub_put (hA.free (by omega)) _).trans (GH.sub_put (by rw [GH.put_other _ _ (by omega)]; exact hA.free (by omega)) _)
  refine (slices_Concat ((H.put (w.heap.size + 1 + 1) (.cells #[.int .i64 f.k, .string f.s, .int .i64 f.n, .slice fa f.l.length fc] 30)).put (w.heap.size + 1 + 1 + 1) (.cells #[.slice (some ⟨w.heap.size + 1 + 1, 0, none⟩) 1 1, .slice a args.length cap] 24)) _ ?agr _ [[f], args] (sl_two (GH.put_same _ _ _) (tms_box (by rw [GH.put_other _ _ (by omega), GH.put_same]) (hf.mono hsub) (by omega) (by unfold maxLen; omega)) (ha.mono hsub)) (by simp; omega)).mono ?_
  case agr => exact (Agree.put (((((hA.alloc _).alloc _).alloc _).alloc _)) ((Below.heap_alloc _ _ _ (by simp)).trans (heap_alloc_at _ _ _ (by simp)))).put (heap_alloc_at _ _ _ (by simp))
  rintro e w1 ⟨v1, rfl, own1, hb1⟩
  obtain ⟨hc1, hf1⟩ := bcell hb1
  have E0 : Pure H w H _ := ((((Ext.refl hA).alloc (.cells #[.int .i64 f.k, .string f.s, .int .i64 f.n, .slice fa f.l.length fc] 30)).alloc (.cells #[.int .i64 0, .string ⟨#[]⟩, .int .i64 0, .slice none 0 0] 30)).alloc (.cells #[.int .i64 f.k, .string f.s, .int .i64 f.n, .slice fa f.l.length fc] 30)).alloc (.cells #[.slice (some ⟨w.heap.size + 1 + 1, 0, none⟩) 1 1, .slice a args.length cap] 24)
  have E1 := ((E0.put (g := w.heap.size + 1 + 1) ((Below.heap_alloc _ _ _ (by simp)).trans (heap_alloc_at _ _ _ (by simp))) (hA.free (by omega)) (by omega)).put (heap_alloc_at _ _ (w.heap.size + 1 + 1 + 1) (by simp)) (by rw [GH.put_other _ _ (by omega)]; exact hA.free (by omega)) (by omega)).then_below hb1
  obtain ⟨H2, E2, hs2, ho2, ht2⟩ := own1.freeze_ext E1 (by simp; omega) (fun _ _ h => h.len)
  obtain ⟨va, vc, rfl, -, -⟩ := own1.form
  have hn2 : H2 (w.heap.size + 1) = none := by
    rw [ho2 _ (by simp), GH.put_other _ _ (by omega), GH.put_other _ _ (by omega)]
    exact hA.free (by omega)
  go_wp2_with fail
  have E3 := (((E2.setCell (p := ⟨w.heap.size + 1, 0, none⟩) hn2 (fun h => absurd h (by simp)) (.int .i64 6)).setCell (p := ⟨w.heap.size + 1, 1, none⟩) hn2 (fun h => absurd h (by simp)) (.string ⟨#[]⟩)).setCell (p := ⟨w.heap.size + 1, 2, none⟩) hn2 (fun h => absurd h (by simp)) (.int .i64 0)).setCell (p := ⟨w.heap.size + 1, 3, none⟩) hn2 (fun h => absurd h (by simp)) (.slice va (args.length + 1) vc)
  have hlen2 : [[f], args].flatten.length = args.length + 1 := by simp
  rw [hlen2] at ht2
  refine bodyPost_ret (v := .agg #[.int .i64 6, .string ByteArray.empty, .int .i64 0, .slice va (args.length + 1) vc]) (by simp [results, Try.results14, go_sem, hc1]; rfl) rfl ⟨H2, _, rfl, E3, by simpa using Sl.mono (Sub.refl H2) (fun _ _ _ h => Rep.mono hs2 h) ht2⟩

/-- The lengths of lists of terms, so that append never fails. -/
def LB : Nat := 2513169434916
/-- term.Apply. -/
theorem term_Apply (f : Tm) (cs : List Value) (args : List Tm) (v : Value) (H : GH) (w : World) (hf : Rep H f cs) (ha : Tms H v args) (hA : Agree H w) (hsh : f.k = 6 → f.l ≠ []) (hlen : (f.apply args).l.length ≤ LB) :
    Calls Try.prog 14 #[.agg cs.toArray, v] w fun e w' => ∃ H' cs', e = .returned (.agg cs'.toArray) ∧ Pure H w H' w' ∧ Rep H' (f.apply args) cs' := by
  obtain ⟨a, cap, rfl, hl, hc⟩ := ha.form
  by_cases h0 : args = []
  · subst h0
    refine (apply_nil f cs H w a cap hf hA).mono fun e w' ⟨he, hb⟩ => ⟨H, cs, he, Ext.of_below hA hb, ?_⟩
    rw [Tm.apply, if_pos rfl]
    exact hf
  · have hne : 0 < args.length := List.length_pos_iff.2 h0
    unfold LB at hlen
    by_cases hk : f.k = 6
    · have he : f.apply args = .mk 6 ByteArray.empty 0 (f.l ++ args) := by rw [Tm.apply, if_neg h0, if_pos ⟨hk, hsh hk⟩]
      rw [he] at hlen ⊢
      simp only [Tm.l_mk, List.length_append] at hlen
      refine (apply_app f cs args H w a cap hf ha hne hk (List.length_pos_iff.2 (hsh hk)) hA (by omega)).mono fun e w' ⟨H', v, he, hx, ht⟩ => ⟨H', _, he, hx, Rep.shut ?_ ?_ ?_ ht⟩
      · unfold I64; omega
      · unfold I64; omega
      · simp [maxLen]
    · have he : f.apply args = .mk 6 ByteArray.empty 0 (f :: args) := by rw [Tm.apply, if_neg h0, if_neg (fun h => hk h.1)]
      rw [he] at hlen ⊢
      simp only [Tm.l_mk, List.length_cons] at hlen
      refine (apply_one f cs args H w a cap hf ha hne hk hA (by omega)).mono fun e w' ⟨H', v, he, hx, ht⟩ => ⟨H', _, he, hx, Rep.shut ?_ ?_ ?_ ht⟩
      · unfold I64; omega
      · unfold I64; omega
      · simp [maxLen]
end Go.Proofs.Ytbdappbmlnpogaa
