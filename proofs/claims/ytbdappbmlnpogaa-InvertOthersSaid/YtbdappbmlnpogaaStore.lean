/- Package store in memory: New, Fresh, Len, Info. -/
import Derived.Test.YtbdappbmlnpogaaRow
namespace Go.Proofs.Ytbdappbmlnpogaa
open Go Go.RowKit
set_option maxRecDepth 100000
def RepI (H : GH) (i : Inf) (cs : List Value) : Prop := ∃ tcs, cs = .int .i64 i.lv :: .bool i.bd :: tcs ∧ Rep H i.vl tcs ∧ I64 i.lv
theorem RepI.len {H : GH} {i : Inf} {cs : List Value} (h : RepI H i cs) : cs.length = 6 := by
  obtain ⟨tcs, rfl, h, -⟩ := h
  have := h.len
  simp only [List.length_cons]; omega
theorem RepI.one {H : GH} {i : Inf} {cs : List Value} (h : RepI H i cs) : ∀ u ∈ cs, u.oneCell' = true := by
  obtain ⟨tcs, rfl, h, -⟩ := h
  intro u hu
  rcases List.mem_cons.1 hu with rfl | hu
  · rfl
  · rcases List.mem_cons.1 hu with rfl | hu
    · rfl
    · exact h.one u hu
theorem RepI.mono {H H' : GH} (hs : Sub H H') {i : Inf} {cs : List Value} (h : RepI H i cs) : RepI H' i cs := by
  obtain ⟨tcs, e, h, h'⟩ := h
  exact ⟨tcs, e, h.mono hs, h'⟩
/-- A store lies at s, its cells in blocks that are among F. -/
def StAt (H : GH) (w : World) (F : Nat → Prop) (s : Nat) (S : St) : Prop :=
  ∃ vi vt, w.heap[s]? = some (.cells #[vi, vt] 67 (0, 0)) ∧ H s = none ∧ F s ∧ Own H w 0 37 6 (RepI H) vi S.V ∧ Own H w 0 3 1 IntP vt S.T ∧
    (∀ g, vi.ownBlock = some g → F g ∧ g ≠ s) ∧ (∀ g, vt.ownBlock = some g → F g ∧ g ≠ s ∧ vi.ownBlock ≠ some g)
theorem StAt.ext {H H' : GH} {w w' : World} {F O : Nat → Prop} {s : Nat} {S : St} (h : StAt H w F s S) (hx : Ext O H w H' w') (ho : ∀ k, O k → ¬ F k) : StAt H' w' F s S := by
  obtain ⟨vi, vt, h1, h2, h3, h4, h5, h6, h7⟩ := h
  exact ⟨vi, vt, (hx.block s (cell_lt h1) (fun h => ho s h h3)).trans h1, (hx.old s (cell_lt h1)).trans h2, h3, h4.ext hx (fun g hg hO => ho g hO (h6 g hg).1) (fun _ _ h => h.mono hx.sub), h5.ext hx (fun g hg hO => ho g hO (h7 g hg).1) (fun _ _ h => h), h6, h7⟩
theorem StAt.pure {H H' : GH} {w w' : World} {F : Nat → Prop} {s : Nat} {S : St} (h : StAt H w F s S) (hx : Pure H w H' w') : StAt H' w' F s S := h.ext hx (fun _ hO => hO.elim)
theorem StAt.mono {H : GH} {w : World} {F F' : Nat → Prop} {s : Nat} {S : St} (h : StAt H w F s S) (hf : ∀ k, F k → F' k) : StAt H w F' s S := by
  obtain ⟨vi, vt, h1, h2, h3, h4, h5, h6, h7⟩ := h
  exact ⟨vi, vt, h1, h2, hf _ h3, h4, h5, fun g hg => ⟨hf _ (h6 g hg).1, (h6 g hg).2⟩, fun g hg => ⟨hf _ (h7 g hg).1, (h7 g hg).2⟩⟩
theorem StAt.lt {H : GH} {w : World} {F : Nat → Prop} {s : Nat} {S : St} (h : StAt H w F s S) : s < w.heap.size := by
  obtain ⟨vi, vt, h1, -⟩ := h
  exact cell_lt h1
theorem StAt.below {H : GH} {w w' : World} {F : Nat → Prop} {s : Nat} {S : St} (h : StAt H w F s S) (hA : Agree H w) (hb : Below w.heap.size w w') : StAt H w' F s S := h.pure (Ext.of_below hA hb)
theorem isSl_infs : IsSl Try.prog 62 37 6 72 :=
  isSl_of (z := .agg #[.int .i64 0, .bool false, .int .i64 0, .string ByteArray.empty, .int .i64 0, .slice none 0 0]) Try.underlying62 (by kernel_rfl) rfl (by decide)
theorem store_New (H : GH) (w : World) (hA : Agree H w) :
    Calls Try.prog 16 #[] w fun e w' => e = .returned (.pointer (some ⟨w.heap.size, 0, none⟩)) ∧ Pure H w H w' ∧ StAt H w' (fun k => k = w.heap.size) w.heap.size ⟨[], []⟩ := by
  have hn := hA.free (Nat.le_refl _)
  go_enter Try.func16, Try.ntmps16
  go_wp2_with fail
  go_ret
  exact ⟨rfl, (Ext.refl hA).alloc _, _, _, heap_alloc_new _ _, hn, rfl, Own.nil _ _ _ _ _ _, Own.nil _ _ _ _ _ _, fun g hg => by simp [Value.ownBlock] at hg, fun g hg => by simp [Value.ownBlock] at hg⟩
theorem blk2 {w : World} {s : Nat} {v0 v1 : Value} {T : TypeId} (h : w.heap[s]? = some (.cells #[v0, v1] T (0, 0))) :
    s < w.heap.size ∧ w.cell? ⟨s, 0, none⟩ = some v0 ∧ w.cell? ⟨s, 1, none⟩ = some v1 ∧ w.frozen? ⟨s, 0, none⟩ = false ∧ w.frozen? ⟨s, 1, none⟩ = false :=
  ⟨cell_lt h, (blk_cells h 0).1, (blk_cells h 1).1, (blk_cells h 0).2, (blk_cells h 1).2⟩
theorem store_Len {F : Nat → Prop} (H : GH) (w : World) (s : Nat) (S : St) (hS : StAt H w F s S) :
    Calls Try.prog 11 #[.pointer (some ⟨s, 0, none⟩)] w fun e w' => e = .returned (.int .i64 S.V.length) ∧ w' = w := by
  obtain ⟨vi, vt, h1, -, -, h4, -⟩ := hS
  obtain ⟨hlt, c0, c1, -⟩ := blk2 h1
  obtain ⟨va, vc, rfl, -, -⟩ := h4.form
  go_enter Try.func11, Try.ntmps11
  go_wp2_with fail
  go_ret
  exact ⟨rfl, rfl⟩
/-- What Info gives. -/
def InfoPost (H : GH) (w : World) (i : Inf) (ok : Bool) (e : Ending) (w' : World) : Prop :=
  ∃ cs, e = .returned (.tuple #[.agg cs.toArray, .bool ok]) ∧ Below w.heap.size w w' ∧ RepI H i cs
abbrev ibox0 : Obj := .cells #[.int .i64 0, .bool false, .int .i64 0, .string ⟨#[]⟩, .int .i64 0, .slice none 0 0] 37 (0, 0)
set_option maxHeartbeats 2000000 in
theorem store_Info {F : Nat → Prop} (H : GH) (w : World) (s : Nat) (S : St) (x : Int) (hS : StAt H w F s S) :
    Calls Try.prog 10 #[.pointer (some ⟨s, 0, none⟩), .int .i64 x] w (InfoPost H w (S.info x).1 (S.info x).2) := by
  obtain ⟨vi, vt, h1, -, -, h4, -⟩ := hS
  obtain ⟨hlt, c0, c1, -⟩ := blk2 h1
  obtain ⟨va, vc, rfl, -, -⟩ := h4.form
  by_cases hx : x < 0
  · have ho := Lib.hid (show S.info x = (Inf.zero, false) by unfold St.info; rw [if_pos (.inl hx)])
    go_enter Try.func10, Try.ntmps10
    go_wp2_with fail
    refine bodyPost_ret (v := .tuple #[.agg #[.int .i64 0, .bool false, .int .i64 0, .string ⟨#[]⟩, .int .i64 0, .slice none 0 0], .bool false]) (by simp [results, Try.results10, go_sem]) rfl ?_
    rw [ho.out]
    exact ⟨_, rfl, below_alloc _ _, _, rfl, rep_zero H, by unfold I64 Inf.zero; simp⟩
  · by_cases hxl : (S.V.length : Int) ≤ x
    · have ho := Lib.hid (show S.info x = (Inf.zero, false) by unfold St.info; rw [if_pos (.inr hxl)])
      go_enter Try.func10, Try.ntmps10
      go_wp2_with fail
      refine bodyPost_ret (v := .tuple #[.agg #[.int .i64 0, .bool false, .int .i64 0, .string ⟨#[]⟩, .int .i64 0, .slice none 0 0], .bool false]) (by simp [results, Try.results10, go_sem]) rfl ?_
      rw [ho.out]
      exact ⟨_, rfl, below_alloc _ _, _, rfl, rep_zero H, by unfold I64 Inf.zero; simp⟩
    · obtain ⟨j, rfl⟩ : ∃ j : Nat, x = j := ⟨x.toNat, by omega⟩
      have hj : j < S.V.length := by omega
      obtain ⟨i, hi⟩ : ∃ i, S.V[j]? = some i := ⟨_, List.getElem?_eq_getElem hj⟩
      have ho := Lib.hid (show S.info j = (i, true) by unfold St.info; rw [if_neg (by omega)]; simp [List.getD_eq_getElem?_getD, hi])
      obtain ⟨g, cap, cs, hv, -, hP, hcell, -, -, -, hg⟩ := h4.get (fun _ _ h => h.len) hi
      injection hv with hv
      subst hv
      have HP := Lib.hid hP
      obtain ⟨tcs, rfl, hR, hlv⟩ := hP
      obtain ⟨ta, tc, rfl, -, -, -, -⟩ := hR.open_
      have d0 := hcell 0 _ rfl
      have d1 := hcell 1 _ rfl
      have d2 := hcell 2 _ rfl
      have d3 := hcell 3 _ rfl
      have d4 := hcell 4 _ rfl
      have d5 := hcell 5 _ rfl
      simp only [Nat.add_zero] at d0
      clear hcell hi h4 hxl hx
      go_enter Try.func10, Try.ntmps10
      go_wp2_with fail
      refine bodyPost_ret (v := .tuple #[.agg #[.int .i64 i.lv, .bool i.bd, .int .i64 i.vl.k, .string i.vl.s, .int .i64 i.vl.n, .slice ta i.vl.l.length tc], .bool true]) (by simp [results, Try.results10, go_sem]) rfl ?_
      rw [ho.out]
      exact ⟨_, rfl, below_alloc _ _, HP.out⟩
end Go.Proofs.Ytbdappbmlnpogaa
