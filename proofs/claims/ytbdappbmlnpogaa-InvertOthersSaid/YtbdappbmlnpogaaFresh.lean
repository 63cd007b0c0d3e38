/- Package store in memory: Fresh. -/
import Derived.Test.YtbdappbmlnpogaaStore
namespace Go.Proofs.Ytbdappbmlnpogaa
open Go Go.RowKit
set_option maxRecDepth 100000
theorem blk2_set0 {w : World} {s : Nat} {v0 v1 u : Value} {T : TypeId} (h : w.heap[s]? = some (.cells #[v0, v1] T (0, 0))) : (w.setCell ⟨s, 0, none⟩ u).heap[s]? = some (.cells #[u, v1] T (0, 0)) := by
  simp [World.setCell, Array.getElem?_modify, h]
theorem blk2_set1 {w : World} {s : Nat} {v0 v1 u : Value} {T : TypeId} (h : w.heap[s]? = some (.cells #[v0, v1] T (0, 0))) : (w.setCell ⟨s, 1, none⟩ u).heap[s]? = some (.cells #[v0, u] T (0, 0)) := by
  simp [World.setCell, Array.getElem?_modify, h]
theorem grown_set (w : World) (s o : Nat) (u : Value) : w.grownBy (w.setCell ⟨s, o, none⟩ u) (some s) :=
  ⟨rfl, rfl, rfl, by simp [World.setCell], fun k _ hne => Below.heap_setCell w ⟨s, o, none⟩ _ k (fun e => hne (congrArg some e))⟩
def FreshPost (F : Nat → Prop) (H : GH) (w : World) (s : Nat) (S : St) (level : Int) (e : Ending) (w' : World) : Prop :=
  e = .returned (.int .i64 S.V.length) ∧ Ext F H w H w' ∧ StAt H w' (fun k => F k ∨ w.heap.size ≤ k) s (S.fresh level)
set_option maxHeartbeats 4000000 in
theorem store_Fresh {F : Nat → Prop} (H : GH) (w : World) (s : Nat) (S : St) (level : Int) (hA : Agree H w) (hS : StAt H w F s S) (hl : I64 level) (hn : S.V.length ≤ 1073741824) :
    Calls Try.prog 17 #[.pointer (some ⟨s, 0, none⟩), .int .i64 level] w (FreshPost F H w s S level) := by
  obtain ⟨vi, vt, h1, h2, h3, h4, h5, h6, h7⟩ := hS
  obtain ⟨hlt, c0, c1, f0, f1⟩ := blk2 h1
  have hbx := below_alloc w (.cells #[.int .i64 (St.top0 level), .bool false, .int .i64 0, .string ⟨#[]⟩, .int .i64 0, .slice none 0 0] 37 (0, 0))
  have hown := h4.below hbx
  have htr := h5.below hbx
  have hfree := h4.free
  have hvi : ∀ g, vi.ownBlock = some g → g < w.heap.size := fun g hg => (h4.lt g hg).2
  have hvt : ∀ g, vt.ownBlock = some g → g < w.heap.size := fun g hg => (h5.lt g hg).2
  obtain ⟨va, vc, rfl, hvc, hvm⟩ := h4.form
  obtain ⟨ta, tc, rfl, -, -⟩ := h5.form
  have hrep : RepI H ⟨St.top0 level, false, Tm.zero⟩ [.int .i64 (St.top0 level), .bool false, .int .i64 0, .string ⟨#[]⟩, .int .i64 0, .slice none 0 0] := ⟨_, rfl, rep_zero H, by show I64 (St.top0 level); unfold I64 St.top0 at *; split <;> omega⟩
  have HREP := Lib.hid hrep
  have H1 := Lib.hid h1
  have hnn : (S.V.length : Int) ≤ 1073741824 := by omega
  have fin : ∀ v' w', Own H w' 0 37 6 (RepI H) v' (S.V ++ [⟨St.top0 level, false, Tm.zero⟩]) → (w.alloc (.cells #[.int .i64 (St.top0 level), .bool false, .int .i64 0, .string ⟨#[]⟩, .int .i64 0, .slice none 0 0] 37 (0, 0))).grownBy w' (Value.slice va S.V.length vc).ownBlock →
      (v'.ownBlock = (Value.slice va S.V.length vc).ownBlock ∨ v'.ownBlock = some (w.heap.size + 1)) → FreshPost F H w s S level (.returned (.int .i64 S.V.length)) (w'.setCell ⟨s, 0, none⟩ v') := by
    intro v' w' own' hg' hb'
    have hb1 : w'.heap[s]? = some (.cells #[.slice va S.V.length vc, .slice ta S.T.length tc] 67 (0, 0)) :=
      (hg'.block s (by simp; omega) (fun e => (h6 s e.symm).2 rfl)).trans (Below.blk hbx h1)
    have E1 : Ext F H w H w' := ((Ext.refl hA).alloc _).grown hg' hfree (fun g hg _ => (h6 g hg).1)
    have hne : ∀ g, v'.ownBlock = some g → (F g ∨ w.heap.size ≤ g) ∧ g ≠ s := fun g hg => by
      rcases hb' with e | e
      · rw [e] at hg; exact ⟨.inl (h6 g hg).1, (h6 g hg).2⟩
      · rw [e] at hg; injection hg with hg; subst hg; exact ⟨.inr (by omega), by omega⟩
    refine ⟨rfl, E1.setCell (p := ⟨s, 0, none⟩) h2 (fun _ => h3) v', v', _, blk2_set0 hb1, h2, .inl h3, ?_, ?_, hne, fun g hg => ⟨.inl (h7 g hg).1, (h7 g hg).2.1, fun e => ?_⟩⟩
    · exact own'.grown (grown_set w' s 0 v') (fun g hg e => by injection e with e; exact (hne g hg).2 e.symm)
    · refine (htr.grown hg' (fun g hg e => (h7 g hg).2.2 e)).grown (grown_set w' s 0 v') (fun g hg e => by injection e with e; exact (h7 g hg).2.1 e.symm)
    · rcases hb' with e' | e'
      · exact (h7 g hg).2.2 (e'.symm.trans e)
      · rw [e'] at e
        injection e with e
        have := hvt g hg
        omega
  have FIN := Lib.hid fin
  clear fin
  have hbh : (w.alloc (.cells #[.int .i64 (St.top0 level), .bool false, .int .i64 0, .string ⟨#[]⟩, .int .i64 0, .slice none 0 0] 37 (0, 0))).heap[w.heap.size]? = some (.cells #[.int .i64 (St.top0 level), .bool false, .int .i64 0, .string ⟨#[]⟩, .int .i64 0, .slice none 0 0] 37 (0, 0)) := heap_alloc_new _ _
  have HBH := Lib.hid hbh
  have H6 := Lib.hid h6
  clear hbh h6 h7 hvi hvt htr h3
  have hcases : (level < 0 ∧ St.top0 level = 0) ∨ (¬ level < 0 ∧ St.top0 level = level) := by unfold St.top0; split <;> simp_all
  rcases hcases with ⟨hl0, ht⟩ | ⟨hl0, ht⟩
  · rw [ht] at hown FIN HREP HBH hbx
    go_enter Try.func17, Try.ntmps17
    go_wp2_with (at_builtin; go_loud (refine wpList_own1 rfl _ _ rfl isSl_infs (.slice va S.V.length vc) rfl w.heap.size 1 rfl hown (hA.alloc _) (by simp) _ HBH.out _ HREP.out rfl HREP.out.one (by unfold maxLen; omega) (by omega) ?_; intro v1 w1 own1 hg1 hb1; have hbk : w1.heap[s]? = _ := (hg1.block s (by simp; omega) (fun e => (H6.out s e.symm).2 rfl)).trans (Below.blk hbx H1.out); obtain ⟨z0, z1, z2, z3, z4⟩ := blk2 hbk; obtain ⟨xa, xc, rfl, hxl, -⟩ := own1.form))
    go_ret
    have own2 := own1
    have hb2 := hb1
    rw [List.length_append] at own2 hb2
    exact FIN.out _ _ own2 hg1 (by simpa using hb2)
  · rw [ht] at hown FIN HREP HBH hbx
    go_enter Try.func17, Try.ntmps17
    go_wp2_with (at_builtin; go_loud (refine wpList_own1 rfl _ _ rfl isSl_infs (.slice va S.V.length vc) rfl w.heap.size 1 rfl hown (hA.alloc _) (by simp) _ HBH.out _ HREP.out rfl HREP.out.one (by unfold maxLen; omega) (by omega) ?_; intro v1 w1 own1 hg1 hb1; have hbk : w1.heap[s]? = _ := (hg1.block s (by simp; omega) (fun e => (H6.out s e.symm).2 rfl)).trans (Below.blk hbx H1.out); obtain ⟨z0, z1, z2, z3, z4⟩ := blk2 hbk; obtain ⟨xa, xc, rfl, hxl, -⟩ := own1.form))
    go_ret
    have own2 := own1
    have hb2 := hb1
    rw [List.length_append] at own2 hb2
    exact FIN.out _ _ own2 hg1 (by simpa using hb2)
end Go.Proofs.Ytbdappbmlnpogaa
