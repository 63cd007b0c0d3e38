/- Package invert: two rows that grow in a loop. -/
import Derived.Test.YtbdappbmlnpogaaFlexp
namespace Go.Proofs.Ytbdappbmlnpogaa
open Go Go.RowKit
set_option maxRecDepth 100000
theorem Own.sub {α : Type} {H H' : GH} {w : World} {base : Nat} {e : TypeId} {sz : Nat} {P P' : α → List Value → Prop} {v : Value} {xs : List α} (h : Own H w base e sz P v xs) (hf : ∀ g, v.ownBlock = some g → H' g = none) (hp : ∀ x cs, P x cs → P' x cs) : Own H' w base e sz P' v xs := by
  obtain ⟨C, hr, _, hq⟩ := h
  exact ⟨C, hr, hf, fun i x hi => hp x _ (hq i x hi)⟩
/-- append(v, y), y's cells in a box: at a step of a region that draws its order. -/
theorem step_own1 {α : Type} {PR : Program} {H : GH} {w : World} {base : Nat} {t e : TypeId} {sz bytes : Nat} {P : α → List Value → Prop} {xs : List α} {ops : Array Oper} {o : Oper} {a : Act} {K : Act → World → Prop} {Q : Exit → Act → World → Prop} {E : Prop} (hgd : o.guard = none) (s x : Operand)
    (ho : o.op = .call { callee := .builtin .append, args := #[s, x], argTypes := #[t, t] }) (hT : IsSl PR t e sz bytes) (v : Value) (hs : a.eval s = v) (g c : Nat) (hx : a.eval x = .slice (some ⟨g, 0, none⟩) 1 c)
    (own : Own H w base e sz P v xs) (hA : Agree H w) (hb : base ≤ w.heap.size) (cells : Array Value) (hbox : w.heap[g]? = some (.cells cells e (0, 0))) (y : α) (hP : P y cells.toList) (hcs : cells.size = sz) (hone : ∀ u ∈ cells.toList, u.oneCell' = true)
    (h63 : xs.length + 1 ≤ maxLen) (hby : (xs.length + 1) * bytes ≤ 140737488355328)
    (h : ∀ v' w', Own H w' base e sz P v' (xs ++ [y]) → w.grownBy w' v.ownBlock → (v'.ownBlock = v.ownBlock ∨ v'.ownBlock = some w.heap.size) → K (a.put o.dst v') w') :
    if Region.wanted o (yielded ops a.tmps) = true then Oper.wp PR o a w K Q else E := by
  have hw : Region.wanted o (yielded ops a.tmps) = true := by simp [Region.wanted, hgd]
  rw [if_pos hw]
  obtain ⟨i, z, h1, h2, h3, h4, h5, h6, h7⟩ := hT
  obtain ⟨C, hown, hf, hq⟩ := own
  have hnews : ∀ j u, cells.toList[j]? = some u → w.cell? ((⟨g, 0, none⟩ : Addr).add j) = some u := fun j u hu => by
    rw [Addr.add_lit, Nat.zero_add, cell_of_row w g j cells e (0, 0) hbox]
    simpa using hu
  obtain ⟨v', w', hrun, h8, h9, _, h10⟩ := run_append_own_at (P := PR) w base t o.type e i z sz bytes h1 h2 h3 h4 h5 h6 h7 v xs.length C hown ⟨g, 0, none⟩ 1 c cells.toList (by simpa using hcs) hnews hone h63 hby hb
  unfold Oper.wp execOp
  simp only [ho, resolve, invoke, builtin, Sem.run_bind, Sem.run_pure, Result.andThen_ok, List.map_toArray, List.map_cons, List.map_nil, hs, hx, hrun]
  refine h v' w' ⟨_, by rw [List.length_append]; exact h8, fun g' hg => ?_, fun i x hi => ?_⟩ h9 h10
  · rcases h10 with h10 | h10
    · rw [h10] at hg; exact hf g' hg
    · rw [h10] at hg; injection hg with hg; subst hg; exact hA.free (Nat.le_refl _)
  · by_cases hlt : i < xs.length
    · rw [flat_elem hown.1 i hlt]
      rw [List.getElem?_append_left hlt] at hi
      exact hq i x hi
    · have hix : i = xs.length + 0 := by
        have := (List.getElem?_eq_some_iff.1 hi).1
        simp at this
        omega
      subst hix
      rw [List.getElem?_append_right (by omega), Nat.add_sub_cancel_left] at hi
      simp at hi
      subst hi
      rw [flat_new hown.1]
      have : cells.toList.length = sz := by simpa using hcs
      simp only [Nat.zero_mul, List.drop_zero]
      rw [← this, List.take_length]
      exact hP
/-- Two rows of the call's own, and a box. -/
structure FI (H : GH) (w : World) (ub : Nat) (u : Tm) (ua : Option Addr) (uc : Nat) (va : Value) (on : List Tm) (vb : Value) (im : List Tm) (W : World) : Prop where
  ext : Pure H w H W
  a : Own H W w.heap.size 30 4 (Rep H) va on
  b : Own H W w.heap.size 30 4 (Rep H) vb im
  ne : ∀ g, va.ownBlock = some g → vb.ownBlock ≠ some g
  box : W.heap[ub]? = some (tbox u ua uc)
  na : va.ownBlock ≠ some ub
  nb : vb.ownBlock ≠ some ub
section
variable {H : GH} {w : World} {ub : Nat} {u : Tm} {ua : Option Addr} {uc : Nat} {va vb : Value} {on im : List Tm} {W W' : World}
theorem FI.below (h : FI H w ub u ua uc va on vb im W) (hb : Below W.heap.size W W') : FI H w ub u ua uc va on vb im W' :=
  ⟨h.ext.then_below hb, h.a.below hb, h.b.below hb, h.ne, Below.blk hb h.box, h.na, h.nb⟩
theorem FI.alloc (h : FI H w ub u ua uc va on vb im W) (o : Obj) : FI H w ub u ua uc va on vb im (W.alloc o) := h.below (below_alloc W o)
theorem FI.drew (h : FI H w ub u ua uc va on vb im W) : FI H w ub u ua uc va on vb im W.drew := h.below (Below.refl _ _).drew
theorem FI.app1 (h : FI H w ub u ua uc va on vb im W) {va' : Value} {y : Tm} (own : Own H W' w.heap.size 30 4 (Rep H) va' (on ++ [y])) (hg : W.grownBy W' va.ownBlock) (hb : va'.ownBlock = va.ownBlock ∨ va'.ownBlock = some W.heap.size) : FI H w ub u ua uc va' (on ++ [y]) vb im W' := by
  refine ⟨h.ext.grown hg h.a.free (fun g hg' hlt => absurd hlt (Nat.not_lt.2 (h.a.lt g hg').1)), own, h.b.grown hg (fun g hg' e => h.ne _ e hg'), fun g hg' e => ?_, (hg.block ub (cell_lt h.box) (fun e => h.na e.symm)).trans h.box, fun e => ?_, h.nb⟩
  · rcases hb with hb | hb
    · exact h.ne g (hb ▸ hg') e
    · rw [hb] at hg'; injection hg' with hg'; have := (h.b.lt g e).2; omega
  · rcases hb with hb | hb
    · exact h.na (hb ▸ e)
    · rw [hb] at e; injection e with e; have := cell_lt h.box; omega
theorem FI.app2 (h : FI H w ub u ua uc va on vb im W) {vb' : Value} {y : Tm} (own : Own H W' w.heap.size 30 4 (Rep H) vb' (im ++ [y])) (hg : W.grownBy W' vb.ownBlock) (hb : vb'.ownBlock = vb.ownBlock ∨ vb'.ownBlock = some W.heap.size) : FI H w ub u ua uc va on vb' (im ++ [y]) W' := by
  refine ⟨h.ext.grown hg h.b.free (fun g hg' hlt => absurd hlt (Nat.not_lt.2 (h.b.lt g hg').1)), h.a.grown hg (fun g hg' e => h.ne _ hg' e), own, fun g hg' e => ?_, (hg.block ub (cell_lt h.box) (fun e => h.nb e.symm)).trans h.box, h.na, fun e => ?_⟩
  · rcases hb with hb | hb
    · exact h.ne g hg' (hb ▸ e)
    · rw [hb] at e; injection e with e; have := (h.a.lt g hg').2; omega
  · rcases hb with hb | hb
    · exact h.nb (hb ▸ e)
    · rw [hb] at e; injection e with e; have := cell_lt h.box; omega
theorem FI.cells (h : FI H w ub u ua uc va on vb im W) : W.cell? ⟨ub, 0, none⟩ = some (.int .i64 u.k) ∧ W.cell? ⟨ub, 1, none⟩ = some (.string u.s) ∧ W.cell? ⟨ub, 2, none⟩ = some (.int .i64 u.n) ∧ W.cell? ⟨ub, 3, none⟩ = some (.slice ua u.l.length uc) :=
  ⟨(box4 h.box).2.1, (box4 h.box).2.2.1, (box4 h.box).2.2.2.1, (box4 h.box).2.2.2.2.1⟩
theorem FI.cells5 (h : FI H w ub u ua uc va on vb im W) {b s : Nat} {c : Ic} {la : Option Addr} {lc : Nat} {f e : Int} (hb : w.heap[b]? = some (ivbox s c la lc f e)) : W.cell? ⟨ub, 0, none⟩ = some (.int .i64 u.k) ∧ W.cell? ⟨ub, 1, none⟩ = some (.string u.s) ∧ W.cell? ⟨ub, 2, none⟩ = some (.int .i64 u.n) ∧ W.cell? ⟨ub, 3, none⟩ = some (.slice ua u.l.length uc) ∧ W.cell? ⟨b, 3, none⟩ = some (.slice la c.L.length lc) :=
  ⟨h.cells.1, h.cells.2.1, h.cells.2.2.1, h.cells.2.2.2, (box6 (Below.blk h.ext.below hb)).2.2.2.2.1⟩
/-- Another box is kept. -/
theorem grown_blk {row : Option Nat} (hg : W.grownBy W' row) {b : Nat} {o : Obj} (h : W.heap[b]? = some o) (hb : row ≠ some b) : W'.heap[b]? = some o :=
  (hg.block b (Array.getElem?_eq_some_iff.1 h).1 (fun e => hb e.symm)).trans h
end
/-- Both rows join what never changes. -/
theorem freeze_two {H : GH} {w W : World} {va vb : Value} {on im : List Tm} (hx : Pure H w H W) (a : Own H W w.heap.size 30 4 (Rep H) va on) (b : Own H W w.heap.size 30 4 (Rep H) vb im) (ne : ∀ g, va.ownBlock = some g → vb.ownBlock ≠ some g) :
    ∃ H', Pure H w H' W ∧ Tms H' va on ∧ Tms H' vb im := by
  obtain ⟨H1, s1, a1, l1, o1, t1⟩ := a.freeze hx.agree (fun _ _ h => h.len)
  have b1 : Own H1 W w.heap.size 30 4 (Rep H1) vb im := b.sub (fun g hg => (o1 g (fun e => ne g e hg)).trans (b.free g hg)) (fun _ _ h => h.mono s1)
  obtain ⟨H2, s2, a2, l2, o2, t2⟩ := b1.freeze a1 (fun _ _ h => h.len)
  exact ⟨H2, ⟨s1.trans s2, a2, hx.os, hx.tape, hx.output, hx.size, hx.block, fun k hk => (l2 k hk).trans (l1 k hk)⟩, Sl.mono s2 (fun _ _ _ h => Rep.mono (s1.trans s2) h) t1, Sl.mono (Sub.refl _) (fun _ _ _ h => Rep.mono s2 h) t2⟩
theorem iv04 {W : World} {vb s : Nat} {c : Ic} {la : Option Addr} {lc : Nat} {f e : Int} (h : W.heap[vb]? = some (ivbox s c la lc f e)) : W.cell? ⟨vb, 0, none⟩ = some (.pointer (some ⟨s, 0, none⟩)) ∧ W.cell? ⟨vb, 4, none⟩ = some (.int .i64 f) :=
  ⟨(box6 h).2.1, (box6 h).2.2.2.2.2.1⟩
theorem iv3 {W : World} {vb s : Nat} {c : Ic} {la : Option Addr} {lc : Nat} {f e : Int} (h : W.heap[vb]? = some (ivbox s c la lc f e)) : W.cell? ⟨vb, 3, none⟩ = some (.slice la c.L.length lc) := (box6 h).2.2.2.2.1
theorem iv02 {W : World} {vb s : Nat} {c : Ic} {la : Option Addr} {lc : Nat} {f e : Int} (h : W.heap[vb]? = some (ivbox s c la lc f e)) : W.cell? ⟨vb, 0, none⟩ = some (.pointer (some ⟨s, 0, none⟩)) ∧ W.cell? ⟨vb, 2, none⟩ = some (.int .i64 c.lv) :=
  ⟨(box6 h).2.1, (box6 h).2.2.2.1⟩
def FlexRel (H : GH) (w : World) (A : Nat → List Tm × List Tm) (N : Nat) (va vb i : Value) (wr : World) : Prop :=
  ∃ (j : Nat), j ≤ N ∧ i = .int .i64 j ∧ Pure H w H wr ∧ Own H wr w.heap.size 30 4 (Rep H) va (A j).1 ∧ Own H wr w.heap.size 30 4 (Rep H) vb (A j).2 ∧ ∀ g, va.ownBlock = some g → vb.ownBlock ≠ some g
def FlexPost (F : Nat → Prop) (vb s : Nat) (c : Ic) (la : Option Addr) (lc : Nat) (H : GH) (w : World) (r : Tm × Iv) (e : Ending) (w' : World) : Prop :=
  ∃ H' cs', e = .returned (.agg cs'.toArray) ∧ Ext (fun k => k = vb ∨ F k) H w H' w' ∧ Rep H' r.1 cs' ∧ w'.heap[vb]? = some (ivbox s c la lc r.2.f r.2.e) ∧ StAt H' w' (fun k => F k ∨ w.heap.size ≤ k) s r.2.S
theorem apply_leaf_len (k n : Int) (hk : k ≠ 6) (l : List Tm) : ((leafT k n).apply l).l.length ≤ l.length + 1 := by
  unfold Tm.apply
  split
  · unfold leafT; simp
  · split
    · rename_i h; exact absurd h.1 hk
    · simp
theorem flexB_lens (c : Ic) (k lv : Int) (l : List Tm) (hl : ∀ u ∈ l, u.isLeaf = true) (j : Nat) : (Ic.flexB c k lv (l.take j) 0).1.length ≤ l.length ∧ (Ic.flexB c k lv (l.take j) 0).2.length ≤ l.length := by
  have := Ic.flexB_len c k lv (l.take j) (fun u hu => hl u (List.mem_of_mem_take hu)) 0
  rw [List.length_take] at this
  omega
theorem iv_far {W : World} {vb ib b : Nat} {x0 x2 y0 : Value} (h : W.cell? ⟨vb, 0, none⟩ = some x0 ∧ W.cell? ⟨vb, 2, none⟩ = some x2 ∧ W.cell? ⟨ib, 0, none⟩ = some y0) (h1 : vb ≠ b) (h2 : ib ≠ b) (u0 u1 u2 u3 : Value) :
    ((((W.setCell ⟨b, 0, none⟩ u0).setCell ⟨b, 1, none⟩ u1).setCell ⟨b, 2, none⟩ u2).setCell ⟨b, 3, none⟩ u3).cell? ⟨vb, 0, none⟩ = some x0 ∧ ((((W.setCell ⟨b, 0, none⟩ u0).setCell ⟨b, 1, none⟩ u1).setCell ⟨b, 2, none⟩ u2).setCell ⟨b, 3, none⟩ u3).cell? ⟨vb, 2, none⟩ = some x2 ∧ ((((W.setCell ⟨b, 0, none⟩ u0).setCell ⟨b, 1, none⟩ u1).setCell ⟨b, 2, none⟩ u2).setCell ⟨b, 3, none⟩ u3).cell? ⟨ib, 0, none⟩ = some y0 := by
  have e : ∀ k o, k ≠ b → ((((W.setCell ⟨b, 0, none⟩ u0).setCell ⟨b, 1, none⟩ u1).setCell ⟨b, 2, none⟩ u2).setCell ⟨b, 3, none⟩ u3).cell? ⟨k, o, none⟩ = W.cell? ⟨k, o, none⟩ := fun k o hk => by
    unfold World.cell?
    rw [blk_far4 _ _ _ _ hk]
  rw [e _ _ h1, e _ _ h1, e _ _ h2]
  exact h
theorem flex_fin {F G : Nat → Prop} {vb s : Nat} {c : Ic} {la : Option Addr} {lc : Nat} {H H7 : GH} {w w7 : World} {Y : Tm} {ya : Option Addr} {yc : Nat} {S' : St} {f e : Int} {r : Tm × Iv} (hne : w.heap.size ≠ vb) (E : Ext (fun k => k = vb ∨ F k) H w H7 w7) (hB : w7.heap[w.heap.size]? = some zbox) (n7 : H7 w.heap.size = none)
    (BV : w7.heap[vb]? = some (ivbox s c la lc f e)) (hS : StAt H7 w7 G s S') (hG : ¬ G w.heap.size) (hGF : ∀ k, G k → F k ∨ w.heap.size ≤ k) (hR : Rep H7 Y (tcells Y ya yc).toList) (hr : r = (Y, ⟨S', f, e⟩)) :
    FlexPost F vb s c la lc H w r (.returned (.agg #[.int .i64 Y.k, .string Y.s, .int .i64 Y.n, .slice ya Y.l.length yc])) ((((w7.setCell ⟨w.heap.size, 0, none⟩ (.int .i64 Y.k)).setCell ⟨w.heap.size, 1, none⟩ (.string Y.s)).setCell ⟨w.heap.size, 2, none⟩ (.int .i64 Y.n)).setCell ⟨w.heap.size, 3, none⟩ (.slice ya Y.l.length yc)) := by
  subst hr
  have T : Ext (fun k => k = w.heap.size) H7 w7 H7 ((((w7.setCell ⟨w.heap.size, 0, none⟩ (.int .i64 Y.k)).setCell ⟨w.heap.size, 1, none⟩ (.string Y.s)).setCell ⟨w.heap.size, 2, none⟩ (.int .i64 Y.n)).setCell ⟨w.heap.size, 3, none⟩ (.slice ya Y.l.length yc)) :=
    ((((Ext.refl (O := fun k => k = w.heap.size) E.agree).setCell (p := ⟨w.heap.size, 0, none⟩) n7 (fun _ => rfl) _).setCell (p := ⟨w.heap.size, 1, none⟩) n7 (fun _ => rfl) _).setCell (p := ⟨w.heap.size, 2, none⟩) n7 (fun _ => rfl) _).setCell (p := ⟨w.heap.size, 3, none⟩) n7 (fun _ => rfl) _
  exact ⟨H7, _, rfl, E.store4 n7 (Nat.le_refl _) _ _ _ _, hR, (T.block vb (cell_lt BV) (fun h => hne h.symm)).trans BV, (hS.ext T (fun k hk hF => by subst hk; exact hG hF)).mono hGF⟩
end Go.Proofs.Ytbdappbmlnpogaa
