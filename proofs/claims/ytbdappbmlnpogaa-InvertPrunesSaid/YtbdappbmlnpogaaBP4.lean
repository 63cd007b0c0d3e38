/- slices.Grow, Concat, Clone at terms; term.Apply. term.Apply, term.Lams. -/
import Derived.Test.YtbdappbmlnpogaaBP3
import Derived.WalkSpells
namespace Go.Proofs.Ytbdappbmlnpogaa
open Go Go.Proofs Go.RowKit
set_option maxRecDepth 100000
theorem tm_info : (Try.prog.info? 30).map (fun i => (i.zero, i.size, i.bytes)) = some (some (.agg #[.int .i64 0, .string ByteArray.empty, .int .i64 0, .slice none 0 0]), 4, 56) := by kernel_rfl
set_option maxHeartbeats 1000000 in
theorem slices_Grow (n : Nat) (hn : n * 56 ≤ 140737488355328) (H : GH) (w : World) (hA : Agree H w) :
    Calls Try.prog 62 #[.slice none 0 0, .int .i64 n] w fun e w' => ∃ v, e = .returned v ∧ Own H w' w.heap.size 30 4 (Rep H) v ([] : List Tm) ∧ Below w.heap.size w w' := by
  by_cases h0 : n = 0
  · subst h0
    go_enter Try.func62, Try.ntmps62
    go_wp2_with fail
    go_ret
    exact ⟨_, rfl, Own.nil _ _ _ _ _ _, Below.refl _ _⟩
  · obtain ⟨i0, hi, hz, hs, hb⟩ := info_parts tm_info
    have h1 : ¬ ((n : Int) < 0) := by omega
    have h4 : (n : Int) > 0 := by omega
    have hrz := Lib.run_append_grow_zeros w 24 3 24 30 i0 _ .i64 .i64 Try.underlying24 Try.underlying3 hi hz none 0 0 [] (run_firstCells_none w.drew i0.size 0 0 0) n (by omega) (by omega) (by omega) (by omega) (by rw [hb]; omega) (by rw [hb]; exact growslice_fits (by omega) (by omega))
    have hge := grownCap_ge w (0 + n) 0 30
    have hle := grownCap_le_maxLen w (0 + n) 0 30 (by unfold maxLen; omega)
    simp only [Nat.zero_add] at hrz hge hle
    obtain ⟨G, hG⟩ : ∃ G, G = grownCap w n 0 30 := ⟨_, rfl⟩
    rw [← hG] at hrz hge hle
    have hsz : (([] : List Value).toArray ++ Builtin.zeroCells (Value.agg #[.int .i64 0, .string ByteArray.empty, .int .i64 0, .slice none 0 0]).cells n ++ Builtin.zeroCells (Value.agg #[.int .i64 0, .string ByteArray.empty, .int .i64 0, .slice none 0 0]).cells (G - n)).size = G * 4 := by
      simp only [Array.size_append, size_zeroCells, List.size_toArray, Value.cells]
      show 0 + n * 4 + (G - n) * 4 = G * 4
      omega
    generalize ([] : List Value).toArray ++ Builtin.zeroCells (Value.agg #[.int .i64 0, .string ByteArray.empty, .int .i64 0, .slice none 0 0]).cells n ++ Builtin.zeroCells (Value.agg #[.int .i64 0, .string ByteArray.empty, .int .i64 0, .slice none 0 0]).cells (G - n) = cur at hrz hsz
    have HS := Lib.hid hsz
    have HR := Lib.hid hrz
    have HL := Lib.hid hle
    unfold maxLen at hle
    clear hG hsz hrz hi hz hs hb h0
    go_enter Try.func62, Try.ntmps62
    go_wp2_with (at_builtin; refine Lib.wpList_append_run _ rfl _ _ _ _ rfl _ _ rfl rfl _ _ HR.out ?_)
    go_ret
    refine ⟨_, rfl, ⟨[], World.ownsRow_made w.drew cur G (Nat.le_refl _) HL.out HS.out, fun g hg => ?_, fun i x hi => by simp at hi⟩, (Below.refl _ _).drew.alloc (Nat.le_refl _) _⟩
    simp [Value.ownBlock] at hg
    exact hA.free (by omega)
/-- slices.Clone: a row of the call's own. -/
theorem slices_Clone (H : GH) (w : World) (hA : Agree H w) (v : Value) (l : List Tm) (hl : Tms H v l) (hn : l.length * 56 ≤ 140737488355328) :
    Calls Try.prog 60 #[v] w fun e w' => ∃ v', e = .returned v' ∧ Own H w' w.heap.size 30 4 (Rep H) v' l ∧ Below w.heap.size w w' := by
  obtain ⟨a, cap, rfl, hlc, hc⟩ := hl.form
  cases a with
  | none =>
    have h0 : l = [] := by
      obtain ⟨a', cap', D, hv, _, _, hr, _⟩ := hl
      injection hv with hv
      subst hv
      rcases Nat.eq_zero_or_pos l.length with h | h
      · exact List.eq_nil_of_length_eq_zero h
      · obtain ⟨b, o, hb, _⟩ := hr h; cases hb
    subst h0
    have he := fun w => Lib.run_eql_slice_nil (P := Try.prog) w 24 30 none 0 cap 0 0 Try.underlying24
    go_enter Try.func60, Try.ntmps60
    go_wp2_with fail
    go_ret
    exact ⟨_, rfl, Own.nil _ _ _ _ _ _, Below.refl _ _⟩
  | some ad =>
    have he := fun w => Lib.run_eql_slice_nil (P := Try.prog) w 24 30 (some ad) l.length cap 0 0 Try.underlying24
    have hown : Own H (w.alloc (.cells #[] 30)) w.heap.size 30 4 (Rep H) (.slice (some ⟨w.heap.size, 0, none⟩) 0 0) ([] : List Tm) :=
      ⟨[], World.ownsRow_made w #[] 0 (Nat.le_refl _) (by unfold maxLen; omega) (by simp), fun g hg => by simp [Value.ownBlock] at hg; exact hA.free (by omega), fun i x hi => by simp at hi⟩
    go_enter Try.func60, Try.ntmps60
    go_wp2_with (at_builtin; refine wpList_own rfl _ _ rfl isSl_tms _ _ rfl rfl hown (hA.alloc _) (by simp) hl (fun _ _ h => h.one) (by simp only [List.length_nil]; unfold maxLen; omega) (by simp only [List.length_nil]; omega) ?_; intro v' w' own' hg' hb')
    go_ret
    refine ⟨_, rfl, by simpa using own', (below_alloc _ _).grown hg' (by simp) (fun k hk => ?_)⟩
    injection hk with hk
    subst hk
    exact Nat.le_refl _
/-- A slice of slices of terms. -/
abbrev Tmss (H : GH) (v : Value) (ls : List (List Tm)) : Prop := Sl H 1 (fun l cs => ∃ u, cs = [u] ∧ Tms H u l) v ls
theorem take_flatten_succ (ls : List (List Tm)) (k : Nat) (x : List Tm) (h : ls[k]? = some x) : (ls.take (k + 1)).flatten = (ls.take k).flatten ++ x := by
  rw [List.take_add_one, h]; simp
theorem take_flatten_le (ls : List (List Tm)) (k : Nat) : (ls.take k).flatten.length ≤ ls.flatten.length := by
  have : ls.flatten = (ls.take k).flatten ++ (ls.drop k).flatten := by rw [← List.flatten_append, List.take_append_drop]
  rw [this, List.length_append]; omega
/-- How many elements the first k lists have. -/
def pre (ls : List (List Tm)) (k : Nat) : Nat := (ls.take k).flatten.length
set_option maxHeartbeats 1000000 in
theorem slices_Concat (H : GH) (w : World) (hA : Agree H w) (v : Value) (ls : List (List Tm)) (hv : Tmss H v ls) (hn : ls.flatten.length * 56 ≤ 140737488355328) :
    Calls Try.prog 36 #[v] w fun e w' => ∃ v', e = .returned v' ∧ Own H w' w.heap.size 30 4 (Rep H) v' ls.flatten ∧ Below w.heap.size w w' := by
  obtain ⟨a, cap, rfl, hlc, hc⟩ := hv.form
  obtain ⟨N, hN⟩ : ∃ N, Hid (N = ls.flatten.length) := ⟨_, rfl⟩
  rw [← hN.out] at hn
  have hc' := hc
  unfold maxLen at hc'
  go_enter Try.func36, Try.ntmps36
  go_wp2_with fail
  go_loop [3, 11] (fun n i => ∃ k : Nat, k ≤ ls.length ∧ i = .int .i64 k ∧ n = .int .i64 (pre ls k : Nat)) (fun _ i => ls.length - (intOf i).toNat)
  case atStart => exact ⟨0, Nat.zero_le _, rfl, rfl⟩
  case round =>
    obtain ⟨k, hk, rfl, rfl⟩ := hrel
    have hle : pre ls k ≤ N := by rw [hN.out]; exact take_flatten_le ls k
    by_cases hlt : k < ls.length
    · have hx : ls[k]? = some ls[k] := List.getElem?_eq_getElem hlt
      obtain ⟨b, o, cs, rfl, hcl, ⟨u, rfl, hu⟩, hcell⟩ := hv.get hx
      obtain ⟨ua, uc, rfl, -, -⟩ := hu.form
      have c0 := hA.cell (hcell 0 _ rfl)
      simp only [Nat.add_zero, Nat.mul_one] at c0
      have hle2 : pre ls (k + 1) ≤ N := by rw [hN.out]; exact take_flatten_le ls (k + 1)
      have hlen : pre ls (k + 1) = pre ls k + ls[k].length := by unfold pre; rw [take_flatten_succ ls k _ hx, List.length_append]
      have HL := Lib.hid hlen
      have hle3 : pre ls k + ls[k].length ≤ N := by omega
      generalize ls[k].length = m' at c0 hle3 HL
      clear hx hcell hcl hlen hle2 hu
      go_wp2_with fail
      go_round
      case rel => exact ⟨k + 1, by omega, by go_num, by rw [HL.out]; go_num⟩
      case measure => simp [intOf]; omega
    · have hk' : pre ls k = N := by unfold pre; rw [List.take_of_length_le (by omega), hN.out]
      rw [hk']
      clear hk' hle
      have hg := Lib.hid (slices_Grow N hn H w hA)
      go_wp2_with fail
      refine hg.out.mono ?_
      rintro e w1 ⟨v1, rfl, own1, hb1⟩
      go_wp2_with fail
      go_loopw [6, 27] (fun u i wr => ∃ k : Nat, k ≤ ls.length ∧ i = .int .i64 k ∧ Own H wr w.heap.size 30 4 (Rep H) u (ls.take k).flatten ∧ Below w.heap.size w wr) (fun _ i _ => ls.length - (intOf i).toNat)
      case atStart => exact ⟨0, Nat.zero_le _, rfl, own1, hb1⟩
      case round =>
        obtain ⟨k, hk, rfl, own, hb⟩ := hrel
        have hle : pre ls (k + 1) ≤ N := by rw [hN.out]; exact take_flatten_le ls (k + 1)
        by_cases hlt : k < ls.length
        · have hx : ls[k]? = some ls[k] := List.getElem?_eq_getElem hlt
          obtain ⟨b, o, cs, rfl, hcl, ⟨u, rfl, hu⟩, hcell⟩ := hv.get hx
          have hA' := hA.below hb
          have c0 := hA'.cell (hcell 0 _ rfl)
          simp only [Nat.add_zero, Nat.mul_one] at c0
          have ht := take_flatten_succ ls k _ hx
          have hlen : (ls.take k).flatten.length + ls[k].length ≤ N := by unfold pre at hle; rw [ht, List.length_append] at hle; exact hle
          have HN := Lib.hid hlen
          clear hle hlen
          have HT := Lib.hid ht
          clear hx hcell hcl ht
          go_wp2_with (at_builtin; refine wpList_own rfl _ _ rfl isSl_tms _ _ rfl rfl own hA' hb.size hu (fun _ _ h => h.one) (by have := HN.out; unfold maxLen; omega) (by have := HN.out; omega) ?_; intro v' w' own' hg' hb')
          go_roundw
          case rel => exact ⟨k + 1, by omega, by go_num, by rw [HT.out]; exact own', hb.grown hg' hb.size (fun g hg => (own.lt g hg).1)⟩
          case measure => simp [intOf]; omega
        · have hk' : ls.take k = ls := List.take_of_length_le (by omega)
          rw [hk'] at own
          have HK := Lib.hid hk'
          clear hk' hle
          go_wp2_with fail
          go_ret
          exact ⟨_, rfl, own, hb⟩
end Go.Proofs.Ytbdappbmlnpogaa
namespace Go.Proofs.Ytbdappbmlnpogaa
open Go Go.Proofs Go.RowKit
set_option maxRecDepth 100000
set_option maxHeartbeats 1000000 in
theorem apply_nil (f : Tm) (cs : List Value) (H : GH) (w : World) (a : Option Addr) (cap : Nat) (hf : Rep H f cs) (hA : Agree H w) :
    Calls Try.prog 14 #[.agg cs.toArray, .slice a 0 cap] w fun e w' => e = .returned (.agg cs.toArray) ∧ Below w.heap.size w w' := by
  obtain ⟨fa, fc, rfl, hk, hn, hs, hl⟩ := hf.open_
  go_enter Try.func14, Try.ntmps14
  go_wp2_with fail
  exact bodyPost_ret (v := .agg #[.int .i64 f.k, .string f.s, .int .i64 f.n, .slice fa f.l.length fc]) (by simp [results, Try.results14, go_sem]) rfl ⟨rfl, ((Below.refl _ _).alloc (Nat.le_refl _) _).alloc (by simp) _⟩
theorem sl_two {H : GH} {g : Nat} {T : TypeId} {u1 u2 : Value} {l1 l2 : List Tm} (hg : H g = some (.cells #[u1, u2] T (0, 0))) (h1 : Tms H u1 l1) (h2 : Tms H u2 l2) : Tmss H (.slice (some ⟨g, 0, none⟩) 2 2) [l1, l2] := by
  refine ⟨some ⟨g, 0, none⟩, 2, fun i => if i = 0 then [u1] else [u2], rfl, by simp, by unfold maxLen; omega, fun _ => ⟨g, 0, rfl, fun i hi => ?_⟩, fun i x hi => ?_⟩
  · have hi' : i = 0 ∨ i = 1 := by simp at hi; omega
    rcases hi' with rfl | rfl
    · refine ⟨rfl, fun j u hu => ?_⟩
      cases j with
      | zero => simp at hu; subst hu; simp [GH.cell?, hg]
      | succ j => simp at hu
    · refine ⟨rfl, fun j u hu => ?_⟩
      cases j with
      | zero => simp at hu; subst hu; simp [GH.cell?, hg]
      | succ j => simp at hu
  · match i with
    | 0 => simp at hi; subst hi; exact ⟨u1, rfl, h1⟩
    | 1 => simp at hi; subst hi; exact ⟨u2, rfl, h2⟩
    | i + 2 => simp at hi
theorem heap_alloc_two (w : World) (a b : Obj) : ((w.alloc a).alloc b).heap[w.heap.size + 1]? = some b := by
  have := heap_alloc_new (w.alloc a) b
  simpa using this
set_option maxHeartbeats 2000000 in
theorem apply_app (f : Tm) (cs : List Value) (args : List Tm) (H : GH) (w : World) (a : Option Addr) (cap : Nat) (hf : Rep H f cs) (ha : Tms H (.slice a args.length cap) args) (hne : 0 < args.length) (hk6 : f.k = 6) (hl0 : 0 < f.l.length) (hA : Agree H w) (hlen : (f.l.length + args.length) * 56 ≤ 140737488355328) :
    Calls Try.prog 14 #[.agg cs.toArray, .slice a args.length cap] w fun e w' => ∃ H' v, e = .returned (.agg #[.int .i64 6, .string ByteArray.empty, .int .i64 0, v]) ∧ Pure H w H' w' ∧ Tms H' v (f.l ++ args) := by
  obtain ⟨fa, fc, rfl, hk, hn, hs, hl⟩ := hf.open_
  rw [hk6]
  have h6 : ((6 : Int) == 6) = true := rfl
  have hna : (args.length == 0) = false := by rw [beq_eq_false_iff_ne]; omega
  have hna' : ((args.length : Int) == 0) = false := by rw [beq_eq_false_iff_ne]; omega
  clear hk6 hk
  go_enter Try.func14, Try.ntmps14
  go_wp2_with fail
  refine (slices_Concat (H.put (w.heap.size + 1 + 1 + 1) (.cells #[.slice fa f.l.length fc, .slice a args.length cap] 24)) _ ?agr _ [f.l, args] (sl_two (GH.put_same _ _ _) (hl.mono (GH.sub_put (hA.free (by omega)) _)) (ha.mono (GH.sub_put (hA.free (by omega)) _))) (by simpa using hlen)).mono ?_
  case agr => exact ((((hA.alloc _).alloc _).alloc _).alloc _).put (heap_alloc_at _ _ _ (by simp))
  rintro e w1 ⟨v1, rfl, own1, hb1⟩
  obtain ⟨hc1, hf1⟩ := bcell hb1
  have E0 : Pure H w H _ := ((((Ext.refl hA).alloc (.cells #[.int .i64 6, .string f.s, .int .i64 f.n, .slice fa f.l.length fc] 30)).alloc (.cells #[.int .i64 0, .string ⟨#[]⟩, .int .i64 0, .slice none 0 0] 30)).alloc (.cells #[.int .i64 6, .string f.s, .int .i64 f.n, .slice fa f.l.length fc] 30)).alloc (.cells #[.slice fa f.l.length fc, .slice a args.length cap] 24)
  have E1 := (E0.put (heap_alloc_at _ _ (w.heap.size + 1 + 1 + 1) (by simp)) (hA.free (by omega)) (by omega)).then_below hb1
  obtain ⟨H2, E2, hs2, ho2, ht2⟩ := own1.freeze_ext E1 (by simp; omega) (fun _ _ h => h.len)
  obtain ⟨va, vc, rfl, -, -⟩ := own1.form
  have hn2 : H2 (w.heap.size + 1) = none := by
    rw [ho2 _ (by simp), GH.put_other _ _ (by omega)]
    exact hA.free (by omega)
  go_wp2_with fail
  have E3 := (((E2.setCell (p := ⟨w.heap.size + 1, 0, none⟩) hn2 (fun h => absurd h (by simp)) (.int .i64 6)).setCell (p := ⟨w.heap.size + 1, 1, none⟩) hn2 (fun h => absurd h (by simp)) (.string ⟨#[]⟩)).setCell (p := ⟨w.heap.size + 1, 2, none⟩) hn2 (fun h => absurd h (by simp)) (.int .i64 0)).setCell (p := ⟨w.heap.size + 1, 3, none⟩) hn2 (fun h => absurd h (by simp)) (.slice va (f.l.length + args.length) vc)
  have hlen2 : [f.l, args].flatten.length = f.l.length + args.length := by simp
  rw [hlen2] at ht2
  refine bodyPost_ret (v := .agg #[.int .i64 6, .string ByteArray.empty, .int .i64 0, .slice va (f.l.length + args.length) vc]) (by simp [results, Try.results14, go_sem, hc1]; rfl) rfl ⟨H2, _, rfl, E3, by simpa using Sl.mono (Sub.refl H2) (fun _ _ _ h => Rep.mono hs2 h) ht2⟩
theorem tms_box {H : GH} {g : Nat} {E : TypeId} {cells : Array Value} {t : Tm} {c : Nat} (hg : H g = some (.cells cells E (0, 0))) (hR : Rep H t cells.toList) (hc1 : 1 ≤ c) (hc2 : c ≤ maxLen) : Tms H (.slice (some ⟨g, 0, none⟩) 1 c) [t] := by
  refine ⟨some ⟨g, 0, none⟩, c, fun _ => cells.toList, rfl, hc1, hc2, fun _ => ⟨g, 0, rfl, fun i hi => ⟨hR.len, fun j u hu => ?_⟩⟩, fun i x hi => ?_⟩
  · have : i = 0 := by simpa using hi
    subst this
    simpa [GH.cell?, hg] using hu
  · cases i with
    | zero => simp at hi; subst hi; exact hR
    | succ i => simp at hi
set_option maxHeartbeats 2000000 in
theorem apply_one (f : Tm) (cs : List Value) (args : List Tm) (H : GH) (w : World) (a : Option Addr) (cap : Nat) (hf : Rep H f cs) (ha : Tms H (.slice a args.length cap) args) (hne : 0 < args.length) (hk6 : f.k ≠ 6) (hA : Agree H w) (hlen : (args.length + 1) * 56 ≤ 140737488355328) :
    Calls Try.prog 14 #[.agg cs.toArray, .slice a args.length cap] w fun e w' => ∃ H' v, e = .returned (.agg #[.int .i64 6, .string ByteArray.empty, .int .i64 0, v]) ∧ Pure H w H' w' ∧ Tms H' v (f :: args) := by
  obtain ⟨fa, fc, rfl, hk, hn, hs, hl⟩ := hf.open_
  have h6 : (f.k == 6) = false := by rw [beq_eq_false_iff_ne]; exact hk6
  have hna : (args.length == 0) = false := by rw [beq_eq_false_iff_ne]; omega
  have hna' : ((args.length : Int) == 0) = false := by rw [beq_eq_false_iff_ne]; omega
  clear hk6 hk
  go_enter Try.func14, Try.ntmps14
  go_wp2_with fail
  have hsub : Sub H ((H.put (w.heap.size + 1 + 1) (.cells #[.int .i64 f.k, .string f.s, .int .i64 f.n, .slice fa f.l.length fc] 30)).put (w.heap.size + 1 + 1 + 1) (.cells #[.slice (some ⟨w.heap.size + 1 + 1, 0, none⟩) 1 1, .slice a args.length cap] 24)) :=
    (GH.sub_put (hA.free (by omega)) _).trans (GH.sub_put (by rw [GH.put_other _ _ (by omega)]; exact hA.free (by omega)) _)
  refine (slices_Concat ((H.put (w.heap.size + 1 + 1) (.cells #[.int .i64 f.k, .string f.s, .int .i64 f.n, .slice fa f.l.length fc] 30)).put (w.heap.size + 1 + 1 + 1) (.cells #[.slice (some ⟨w.heap.size + 1 + 1, 0, none⟩) 1 1, .slice a args.length cap] 24)) _ ?agr _ [[f], args] (sl_two (GH.put_same _ _ _) (tms_box (by rw [GH.put_other _ _ (by omega), GH.put_same]) (hf.mono hsub) (by omega) (by unfold maxLen; omega)) (ha.mono hsub)) (by simp; omega)).mono ?_
  case agr => exact (Agree.put (((((hA.alloc _).alloc _).alloc _).alloc _)) ((Below.heap_alloc _ _ _ (by simp)).trans (heap_alloc_at _ _ _ (by simp)))).put (heap_alloc_at _ _ _ (by simp))
  rintro e w1 ⟨v1, rfl, own1, hb1⟩
  obtain ⟨hc1, hf1⟩ := bcell hb1
  have E0 : Pure H w H _ := ((((Ext.refl hA).alloc (.cells #[.int .i64 f.k, .string f.s, .int .i64 f.n, .slice fa f.l.length fc] 30)).alloc (.cells #[.int .i64 0, .string ⟨#[]⟩, .int .i64 0, .slice none 0 0] 30)).alloc (.cells #[.int .i64 f.k, .string f.s, .int .i64 f.n, .slice fa f.l.length fc] 30)).alloc (.cells #[.slice (some ⟨w.heap.size + 1 + 1, 0, none⟩) 1 1, .slice a args.length cap] 24)
  have E1 := ((E0.put (g := w.heap.size + 1 + 1) ((Below.heap_alloc _ _ _ (by simp)).trans (heap_alloc_at _ _ _ (by simp))) (hA.free (by omega)) (by omega)).put (heap_alloc_at _ _ (w.heap.size + 1 + 1 + 1) (by simp)) (by rw [GH.put_other _ _ (by omega)]; exact hA.free (by omega)) (by omega)).then_below hb1
  obtain ⟨H2, E2, hs2, ho2, ht2⟩ := own1.freeze_ext E1 (by simp; omega) (fun _ _ h => h.len)
  obtain ⟨va, vc, rfl, -, -⟩ := own1.form
  have hn2 : H2 (w.heap.size + 1) = none := by
    rw [ho2 _ (by simp), GH.put_other _ _ (by omega), GH.put_other _ _ (by omega)]
    exact hA.free (by omega)
  go_wp2_with fail
  have E3 := (((E2.setCell (p := ⟨w.heap.size + 1, 0, none⟩) hn2 (fun h => absurd h (by simp)) (.int .i64 6)).setCell (p := ⟨w.heap.size + 1, 1, none⟩) hn2 (fun h => absurd h (by simp)) (.string ⟨#[]⟩)).setCell (p := ⟨w.heap.size + 1, 2, none⟩) hn2 (fun h => absurd h (by simp)) (.int .i64 0)).setCell (p := ⟨w.heap.size + 1, 3, none⟩) hn2 (fun h => absurd h (by simp)) (.slice va (args.length + 1) vc)
  have hlen2 : [[f], args].flatten.length = args.length + 1 := by simp
  rw [hlen2] at ht2
  refine bodyPost_ret (v := .agg #[.int .i64 6, .string ByteArray.empty, .int .i64 0, .slice va (args.length + 1) vc]) (by simp [results, Try.results14, go_sem, hc1]; rfl) rfl ⟨H2, _, rfl, E3, by simpa using Sl.mono (Sub.refl H2) (fun _ _ _ h => Rep.mono hs2 h) ht2⟩

/-- The lengths of lists of terms, so that append never fails. -/
def LB : Nat := 2513169434916
/-- term.Apply. -/
theorem term_Apply (f : Tm) (cs : List Value) (args : List Tm) (v : Value) (H : GH) (w : World) (hf : Rep H f cs) (ha : Tms H v args) (hA : Agree H w) (hsh : f.k = 6 → f.l ≠ []) (hlen : (f.apply args).l.length ≤ LB) :
    Calls Try.prog 14 #[.agg cs.toArray, v] w fun e w' => ∃ H' cs', e = .returned (.agg cs'.toArray) ∧ Pure H w H' w' ∧ Rep H' (f.apply args) cs' := by
  obtain ⟨a, cap, rfl, hl, hc⟩ := ha.form
  by_cases h0 : args = []
  · subst h0
    refine (apply_nil f cs H w a cap hf hA).mono fun e w' ⟨he, hb⟩ => ⟨H, cs, he, Ext.of_below hA hb, ?_⟩
    rw [Tm.apply, if_pos rfl]
    exact hf
  · have hne : 0 < args.length := List.length_pos_iff.2 h0
    unfold LB at hlen
    by_cases hk : f.k = 6
    · have he : f.apply args = .mk 6 ByteArray.empty 0 (f.l ++ args) := by rw [Tm.apply, if_neg h0, if_pos ⟨hk, hsh hk⟩]
      rw [he] at hlen ⊢
      simp only [Tm.l_mk, List.length_append] at hlen
      refine (apply_app f cs args H w a cap hf ha hne hk (List.length_pos_iff.2 (hsh hk)) hA (by omega)).mono fun e w' ⟨H', v, he, hx, ht⟩ => ⟨H', _, he, hx, Rep.shut ?_ ?_ ?_ ht⟩
      · unfold I64; omega
      · unfold I64; omega
      · simp [maxLen]
    · have he : f.apply args = .mk 6 ByteArray.empty 0 (f :: args) := by rw [Tm.apply, if_neg h0, if_neg (fun h => hk h.1)]
      rw [he] at hlen ⊢
      simp only [Tm.l_mk, List.length_cons] at hlen
      refine (apply_one f cs args H w a cap hf ha hne hk hA (by omega)).mono fun e w' ⟨H', v, he, hx, ht⟩ => ⟨H', _, he, hx, Rep.shut ?_ ?_ ?_ ht⟩
      · unfold I64; omega
      · unfold I64; omega
      · simp [maxLen]
end Go.Proofs.Ytbdappbmlnpogaa
