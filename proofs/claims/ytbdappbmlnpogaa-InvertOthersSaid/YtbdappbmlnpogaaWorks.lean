/- The document's examples hold: works, walked. -/
import Derived.Test.YtbdappbmlnpogaaWorks0
namespace Go.Proofs.Ytbdappbmlnpogaa
open Go Go.RowKit
set_option maxRecDepth 100000
theorem below_al {a W : World} {o : Obj} (h : Below a.heap.size a W) : Below a.heap.size a (W.alloc o) := h.trans ((below_alloc W o).mono h.size)
theorem at0d (X : World) (o : Obj) (n : Nat) (h : n = X.heap.size) : (X.alloc o).drew.heap[n]? = some o := heap_alloc_at X o n h
theorem up0 {X : World} {o o' : Obj} {n : Nat} (h : X.heap[n]? = some o') : (X.alloc o).heap[n]? = some o' := Below.blk (below_alloc X o) h
theorem up0d {X : World} {o o' : Obj} {n : Nat} (h : X.heap[n]? = some o') : (X.alloc o).drew.heap[n]? = some o' := Below.blk (below_alloc X o) h
/-- Cells of the two boxes. -/
def CJ (b3 b4 : Nat) (W : World) : Prop := W.heap[b3]? = some zb3 ∧ W.heap[b4]? = some fb4
theorem CJ.cells {b3 b4 : Nat} {W : World} (h : CJ b3 b4 W) : W.cell? ⟨b3, 0, none⟩ = some (.int .i64 3) ∧ W.cell? ⟨b3, 1, none⟩ = some (.string ⟨#[]⟩) ∧ W.cell? ⟨b3, 2, none⟩ = some (.int .i64 0) ∧ W.cell? ⟨b3, 3, none⟩ = some (.slice none 0 0) ∧ W.cell? ⟨b4, 0, none⟩ = some (.int .i64 0) ∧ W.cell? ⟨b4, 1, none⟩ = some (.string ⟨#[102]⟩) ∧ W.cell? ⟨b4, 2, none⟩ = some (.int .i64 0) ∧ W.cell? ⟨b4, 3, none⟩ = some (.slice none 0 0) :=
  ⟨(box4 h.1).2.1, (box4 h.1).2.2.1, (box4 h.1).2.2.2.1, (box4 h.1).2.2.2.2.1, (box4 h.2).2.1, (box4 h.2).2.2.1, (box4 h.2).2.2.2.1, (box4 h.2).2.2.2.2.1⟩
theorem CJ.below {b3 b4 : Nat} {W W' : World} (h : CJ b3 b4 W) (hb : Below W.heap.size W W') : CJ b3 b4 W' := ⟨Below.blk hb h.1, Below.blk hb h.2⟩
theorem CJ.far {b3 b4 g : Nat} {W : World} (h : CJ b3 b4 W) (h3 : b3 ≠ g) (h4 : b4 ≠ g) (u0 u1 u2 u3 : Value) : CJ b3 b4 ((((W.setCell ⟨g, 0, none⟩ u0).setCell ⟨g, 1, none⟩ u1).setCell ⟨g, 2, none⟩ u2).setCell ⟨g, 3, none⟩ u3) :=
  ⟨(blk_far4 _ _ _ _ h3).trans h.1, (blk_far4 _ _ _ _ h4).trans h.2⟩
def Apply7 (H : GH) (WX W : World) (F : Nat → Prop) (s g b3 b4 : Nat) (e : Ending) (w' : World) : Prop :=
  ∃ H7 cs', e = .returned (.agg cs'.toArray) ∧ Below W.heap.size W w' ∧ Ext (fun _ => False) H WX H7 w' ∧ Rep H7 (Tm.apply wf [wz]) cs' ∧ StAt H7 w' F s WS ∧ CJ b3 b4 w' ∧ ∀ k, WX.heap.size ≤ k → k < W.heap.size → k ≠ g → H7 k = none
theorem works_7a {H : GH} {WX : World} {F : Nat → Prop} {s b3 b4 : Nat} (hA : Agree H WX) (hS : StAt H WX F s WS) (hF : ∀ k, F k → k < WX.heap.size) (hc : CJ b3 b4 WX) (W : World) (g : Nat) (hW : Below WX.heap.size WX W) (hb : W.heap[g]? = some zb3) (hg : WX.heap.size ≤ g) :
    Calls Try.prog 14 #[.agg #[.int .i64 0, .string ⟨#[102]⟩, .int .i64 0, .slice none 0 0], .slice (some ⟨g, 0, none⟩) 1 1] W (Apply7 H WX W F s g b3 b4) := by
  have hn : H g = none := hA.free hg
  refine (works_apply (rep_wf H) (hA.below hW) hb hn (by intro h; cases h) (by decide)).mono ?_
  have hx : Ext (fun _ => False) H WX (H.put g zb3) W := ⟨GH.sub_put hn _, (hA.below hW).put hb, hW.os, hW.tape, hW.output, hW.size, fun k hk _ => hW.block k hk, fun k hk => GH.put_other _ _ (by omega)⟩
  rintro e w' ⟨H7, cs', rfl, X7, R7⟩
  exact ⟨H7, cs', rfl, X7.below, hx.then X7, R7, ((hS.below hA hW).put hn (fun h => by have := hF g h; omega)).pure X7, (hc.below hW).below X7.below, fun k h1 h2 h3 => (X7.old k h2).trans ((GH.put_other _ _ h3).trans (hA.free h1))⟩
def Inv7 (H H7 : GH) (WX W : World) (F : Nat → Prop) (s g b3 b4 : Nat) (e : Ending) (w' : World) : Prop :=
  ∃ H8 cs', e = .returned (.tuple #[.agg cs'.toArray, .int .i64 7, .int .i64 0]) ∧ Ext F H WX H8 w' ∧ Rep H8 (Tm.lams 1 (Tm.apply wf [wz])) cs' ∧ StAt H8 w' (fun k => (F k ∨ W.heap.size ≤ k) ∧ k < w'.heap.size) s WS ∧ CJ b3 b4 w' ∧ (∀ k o, WX.heap.size ≤ k → W.heap[k]? = some o → w'.heap[k]? = some o ∧ k < W.heap.size ∧ (H7 k = none → k ≠ g → H8 k = none)) ∧ WX.heap.size ≤ W.heap.size
theorem works_7b {H H7 : GH} {WX w7 : World} {F : Nat → Prop} {s b3 b4 : Nat} (hX : Ext (fun _ => False) H WX H7 w7) (hS : StAt H7 w7 F s WS) (hF : ∀ k, F k → k < WX.heap.size) (hc : CJ b3 b4 w7) (h3 : ¬ F b3) (h4 : ¬ F b4) (hb34 : b3 < WX.heap.size ∧ b4 < WX.heap.size) {cs : List Value} (hR : Rep H7 (Tm.apply wf [wz]) cs) (W : World) (g : Nat) (hW : Below w7.heap.size w7 W) (hb : W.heap[g]? = some zb3) (hg : WX.heap.size ≤ g) (hn : H7 g = none) :
    Calls Try.prog 19 #[.pointer (some ⟨s, 0, none⟩), .int .i64 0, .slice (some ⟨g, 0, none⟩) 1 1, .agg cs.toArray, .int .i64 9] W (Inv7 H H7 WX W F s g b3 b4) := by
  have hA := hX.agree.below hW
  refine (works_invert hA (hS.below hX.agree hW) hb hn (fun h => by have := hF g h; omega) hR (by decide) (by decide) (by decide)).mono ?_
  have hx : Ext (fun _ => False) H WX (H7.put g zb3) W := ⟨hX.sub.trans (GH.sub_put hn _), hA.put hb, hW.os.trans hX.os, hW.tape.trans hX.tape, hW.output.trans hX.output, Nat.le_trans hX.size hW.size, fun k hk hn' => (hW.block k (Nat.lt_of_lt_of_le hk hX.size)).trans (hX.block k hk hn'), fun k hk => (GH.put_other _ _ (by omega)).trans (hX.old k hk)⟩
  have hs1 := hX.size
  have hs2 := hW.size
  rintro e w' ⟨H8, cs', rfl, X8, R8, S8⟩
  rw [works_1] at R8 S8
  have c8 := hc.below hW
  refine ⟨H8, cs', rfl, (hx.mono (O' := F) (fun _ h => h.elim)).trans X8 (fun k hk _ => hk), R8, S8.tight, ⟨(X8.block b3 (by omega) h3).trans c8.1, (X8.block b4 (by omega) h4).trans c8.2⟩, fun k o h1 h2 => ⟨(X8.block k (cell_lt h2) (fun h => by have := hF k h; omega)).trans h2, cell_lt h2, fun h3 h4 => (X8.old k (cell_lt h2)).trans ((GH.put_other _ _ h4).trans h3)⟩, hx.size⟩
abbrev TT : Tm := Tm.lams 1 (Tm.apply wf [wz])
theorem mid_before {H H8 : GH} {w WX w8 : World} {F : Nat → Prop} {s b3 b4 g Wn : Nat} {ya : Option Addr} {yc : Nat} (EX : Pure H w H WX) (hFs : ∀ k, F k → w.heap.size ≤ k ∧ k < WX.heap.size) (X8 : Ext F H WX H8 w8) (R8 : Rep H8 TT (tcells TT ya yc).toList) (ST8 : StAt H8 w8 (fun k => (F k ∨ Wn ≤ k) ∧ k < w8.heap.size) s WS) (CC8 : CJ b3 b4 w8) (h3 : ¬ F b3) (h4 : ¬ F b4) (hb : b3 < WX.heap.size ∧ b4 < WX.heap.size) (hWn : WX.heap.size ≤ Wn)
    (M5 : w8.heap[g]? = some zbox) (hgW : g < Wn) (K5 : H8 g = none) (hg : WX.heap.size ≤ g) :
    WorkMid H w s b3 b4 (.pointer (some ⟨g, 0, none⟩)) (.int .i64 7) (.int .i64 0) ((((w8.setCell ⟨g, 0, none⟩ (.int .i64 TT.k)).setCell ⟨g, 1, none⟩ (.string TT.s)).setCell ⟨g, 2, none⟩ (.int .i64 TT.n)).setCell ⟨g, 3, none⟩ (.slice ya TT.l.length yc)) := by
  have hwX := EX.size
  have P8 : Pure H w H8 w8 := EX.trans X8 (fun k hk hlt => absurd hlt (by have := (hFs k hk).1; omega))
  have T : Ext (fun k => k = g) H8 w8 H8 ((((w8.setCell ⟨g, 0, none⟩ (.int .i64 TT.k)).setCell ⟨g, 1, none⟩ (.string TT.s)).setCell ⟨g, 2, none⟩ (.int .i64 TT.n)).setCell ⟨g, 3, none⟩ (.slice ya TT.l.length yc)) :=
    ((((Ext.refl (O := fun k => k = g) X8.agree).setCell (p := ⟨g, 0, none⟩) K5 (fun _ => rfl) _).setCell (p := ⟨g, 1, none⟩) K5 (fun _ => rfl) _).setCell (p := ⟨g, 2, none⟩) K5 (fun _ => rfl) _).setCell (p := ⟨g, 3, none⟩) K5 (fun _ => rfl) _
  have nG : ¬ ((F g ∨ Wn ≤ g) ∧ g < w8.heap.size) := fun h => h.1.elim (fun h => by have := (hFs g h).2; omega) (fun h => by omega)
  have c := CC8.far (g := g) (by omega) (by omega) (.int .i64 TT.k) (.string TT.s) (.int .i64 TT.n) (.slice ya TT.l.length yc)
  refine ⟨_, H8, g, ya, yc, rfl, rfl, rfl, P8.store4 K5 (by omega) _ _ _ _, ST8.ext T (fun k hk hF => by subst hk; exact nG hF), nG, fun h => h.1.elim h3 (fun h => by omega), fun h => h.1.elim h4 (fun h => by omega), fun k hk => ⟨?_, by rw [size_set4]; exact hk.2⟩, R8, blk_set4 _ _ _ _ M5, c.1, c.2⟩
  exact hk.1.elim (fun h => (hFs k h).1) (fun h => by omega)
theorem mid_after {H H8 : GH} {w WX w8 : World} {F : Nat → Prop} {s b3 b4 Wn : Nat} {ya : Option Addr} {yc : Nat} (EX : Pure H w H WX) (hFs : ∀ k, F k → w.heap.size ≤ k ∧ k < WX.heap.size) (X8 : Ext F H WX H8 w8) (R8 : Rep H8 TT (tcells TT ya yc).toList) (ST8 : StAt H8 w8 (fun k => (F k ∨ Wn ≤ k) ∧ k < w8.heap.size) s WS) (CC8 : CJ b3 b4 w8) (h3 : ¬ F b3) (h4 : ¬ F b4) (hb : b3 < WX.heap.size ∧ b4 < WX.heap.size) (hWn : WX.heap.size ≤ Wn) :
    WorkMid H w s b3 b4 (.pointer (some ⟨w8.heap.size, 0, none⟩)) (.int .i64 7) (.int .i64 0) (w8.alloc (tbox TT ya yc)) := by
  have hwX := EX.size
  have P8 : Pure H w H8 w8 := EX.trans X8 (fun k hk hlt => absurd hlt (by have := (hFs k hk).1; omega))
  have c := CC8.below (below_alloc w8 (tbox TT ya yc))
  refine ⟨_, H8, w8.heap.size, ya, yc, rfl, rfl, rfl, P8.alloc _, ST8.below X8.agree (below_alloc _ _), fun h => Nat.lt_irrefl _ h.2, fun h => h.1.elim h3 (fun h => by omega), fun h => h.1.elim h4 (fun h => by omega), fun k hk => ⟨?_, by have := hk.2; simp; omega⟩, R8, heap_alloc_new _ _, c.1, c.2⟩
  exact hk.1.elim (fun h => (hFs k h).1) (fun h => by omega)
/-- What is carried from call to call. -/
structure WST (H : GH) (w : World) (s b3 b4 g : Nat) (ta : Option Addr) (tc : Nat) (F : Nat → Prop) (H' : GH) (wx : World) : Prop where
  P : Pure H w H' wx
  ST : StAt H' wx F s WS
  hF : ∀ k, F k → w.heap.size ≤ k ∧ k < wx.heap.size
  R : Rep H' TT (tcells TT ta tc).toList
  B : wx.heap[g]? = some (tbox TT ta tc)
  C : CJ b3 b4 wx
  nG : ¬ F g
  n3 : ¬ F b3
  n4 : ¬ F b4
section
variable {H H' H'' : GH} {w wx wx' : World} {s b3 b4 g : Nat} {ta : Option Addr} {tc : Nat} {F : Nat → Prop}
theorem WST.pure (h : WST H w s b3 b4 g ta tc F H' wx) (X : Pure H' wx H'' wx') : WST H w s b3 b4 g ta tc F H'' wx' :=
  ⟨h.P.then X, h.ST.pure X, fun k hk => ⟨(h.hF k hk).1, Nat.lt_of_lt_of_le (h.hF k hk).2 X.size⟩, h.R.mono X.sub, Below.blk X.below h.B, h.C.below X.below, h.nG, h.n3, h.n4⟩
theorem WST.alloc (h : WST H w s b3 b4 g ta tc F H' wx) (o : Obj) : WST H w s b3 b4 g ta tc F H' (wx.alloc o) := h.pure ((Ext.refl h.P.agree).alloc o)
theorem WST.drew (h : WST H w s b3 b4 g ta tc F H' wx) : WST H w s b3 b4 g ta tc F H' wx.drew := h.pure (Ext.refl h.P.agree).drew
theorem WST.put (h : WST H w s b3 b4 g ta tc F H' wx) {g' : Nat} {o : Obj} (hg : wx.heap[g']? = some o) (hn : H' g' = none) (hs : w.heap.size ≤ g') (hF : ¬ F g') : WST H w s b3 b4 g ta tc F (H'.put g' o) wx :=
  ⟨h.P.put hg hn hs, h.ST.put hn hF, h.hF, h.R.mono (GH.sub_put hn o), h.B, h.C, h.nG, h.n3, h.n4⟩
theorem WST.free (h : WST H w s b3 b4 g ta tc F H' wx) : H' wx.heap.size = none ∧ w.heap.size ≤ wx.heap.size ∧ ¬ F wx.heap.size :=
  ⟨h.P.agree.free (Nat.le_refl _), h.P.size, fun hk => Nat.lt_irrefl _ (h.hF _ hk).2⟩
theorem WST.slice (h : WST H w s b3 b4 g ta tc F H' wx) (o : Obj) : WST H w s b3 b4 g ta tc F (H'.put wx.heap.size o) (wx.alloc o) :=
  (h.alloc o).put (heap_alloc_new _ _) h.free.1 h.free.2.1 h.free.2.2
theorem WST.cells (h : WST H w s b3 b4 g ta tc F H' wx) : wx.cell? ⟨b3, 0, none⟩ = some (.int .i64 3) ∧ wx.cell? ⟨b3, 1, none⟩ = some (.string ⟨#[]⟩) ∧ wx.cell? ⟨b3, 2, none⟩ = some (.int .i64 0) ∧ wx.cell? ⟨b3, 3, none⟩ = some (.slice none 0 0) ∧ wx.cell? ⟨b4, 0, none⟩ = some (.int .i64 0) ∧ wx.cell? ⟨b4, 1, none⟩ = some (.string ⟨#[102]⟩) ∧ wx.cell? ⟨b4, 2, none⟩ = some (.int .i64 0) ∧ wx.cell? ⟨b4, 3, none⟩ = some (.slice none 0 0) ∧ wx.cell? ⟨g, 0, none⟩ = some (.int .i64 TT.k) ∧ wx.cell? ⟨g, 1, none⟩ = some (.string TT.s) ∧ wx.cell? ⟨g, 2, none⟩ = some (.int .i64 TT.n) ∧ wx.cell? ⟨g, 3, none⟩ = some (.slice ta TT.l.length tc) := by
  obtain ⟨a1, a2, a3, a4, a5, a6, a7, a8⟩ := h.C.cells
  exact ⟨a1, a2, a3, a4, a5, a6, a7, a8, (box4 h.B).2.1, (box4 h.B).2.2.1, (box4 h.B).2.2.2.1, (box4 h.B).2.2.2.2.1⟩
end
set_option maxHeartbeats 16000000 in
theorem law_works (H : GH) (w : World) (hA : Agree H w) : Calls Try.prog 5 #[] w fun e w' => e = .returned (.bool true) ∧ Below w.heap.size w w' := by
  have hnew := Lib.hid (store_New H w hA)
  go_enter Try.func5, Try.ntmps5
  go_wp2_with fail
  refine hnew.out.mono ?_
  rintro e w1 ⟨rfl, X1, S1⟩
  have hfr := Lib.hid (store_Fresh H w1 w.heap.size ⟨[], []⟩ 0 X1.agree S1.tight (by unfold I64; omega) (by simp))
  go_wp2_with fail
  refine hfr.out.mono ?_
  rintro e w2 ⟨rfl, X2, S2⟩
  rw [works_fresh] at S2
  have E2 := Lib.hid (X1.trans X2 (fun k hk hlt => by have := hk.1; omega))
  have hz2 := E2.out.size
  have hF2 : Hid (∀ k, ((k = w.heap.size ∧ k < w1.heap.size) ∨ w1.heap.size ≤ k) ∧ k < w2.heap.size → w.heap.size ≤ k ∧ k < w2.heap.size) := Lib.hid (fun k hk => ⟨by have := hk.1; have := X1.size; omega, hk.2⟩)
  have SX := Lib.hid ((S2.tight.below X2.agree (below_alloc w2 zb3)).below (X2.agree.alloc zb3) (below_alloc (w2.alloc zb3) fb4))
  have EX := Lib.hid ((E2.out.alloc zb3).alloc fb4)
  have CX : Hid (CJ w2.heap.size (w2.heap.size + 1) ((w2.alloc zb3).alloc fb4)) := Lib.hid ⟨Below.blk (below_alloc _ _) (heap_alloc_new _ _), heap_alloc_at _ _ _ (by simp)⟩
  have hsx : ((w2.alloc zb3).alloc fb4).heap.size = w2.heap.size + 2 := by simp
  clear hnew hfr X1 S1 X2 S2
  go_upto_region 7 with fail
  generalize hWX : (w2.alloc zb3).alloc fb4 = WX at *
  clear hWX
  generalize hFF : (fun k => ((k = w.heap.size ∧ k < w1.heap.size) ∨ w1.heap.size ≤ k) ∧ k < w2.heap.size) = F at *
  have hFs : Hid (∀ k, F k → w.heap.size ≤ k ∧ k < w2.heap.size) := Lib.hid (fun k hk => hF2.out k (by rw [← hFF] at hk; exact hk))
  have HSX := Lib.hid hsx
  have h3 : Hid (¬ F w2.heap.size) := Lib.hid (fun h => by have := (hFs.out _ h).2; omega)
  have h4 : Hid (¬ F (w2.heap.size + 1)) := Lib.hid (fun h => by have := (hFs.out _ h).2; omega)
  clear hFF hF2 hsx
  go_cut [5, 6, 7] from 25 (fun p n e wx => WorkMid H w w.heap.size w2.heap.size (w2.heap.size + 1) p n e wx)
  case first =>
    have hFW : ∀ k, F k → k < WX.heap.size := fun k hk => by have := (hFs.out k hk).2; have := HSX.out; omega
    have hb34 : w2.heap.size < WX.heap.size ∧ w2.heap.size + 1 < WX.heap.size := by have := HSX.out; omega
    have ARM1 := Lib.hid (fun W g hW hb hg => works_7a EX.out.agree SX.out hFW CX.out W g hW hb hg)
    have HB34 := Lib.hid hb34
    have HFW := Lib.hid hFW
    clear hb34 hFW
    have P0 := Lib.hid (ARM1.out (WX.alloc zb3).drew (WX.heap.size) (by (repeat (first | with_reducible exact Below.refl _ _ | with_reducible apply Below.drew | with_reducible apply below_al))) (show ((WX.alloc zb3)).heap[WX.heap.size]? = some zb3 from heap_alloc_at _ _ _ (by simp)) (by omega))
    have P1 := Lib.hid (ARM1.out ((WX.alloc zb3).alloc zb3).drew (WX.heap.size) (by (repeat (first | with_reducible exact Below.refl _ _ | with_reducible apply Below.drew | with_reducible apply below_al))) (show (((WX.alloc zb3).alloc zb3)).heap[WX.heap.size]? = some zb3 from up0 (heap_alloc_at _ _ _ (by simp))) (by omega))
    have A1 := Lib.hid (show (((WX.alloc zb3).alloc zb3)).heap[WX.heap.size + 1]? = some zb3 from heap_alloc_at _ _ _ (by simp))
    have L1 : Hid (WX.heap.size ≤ WX.heap.size + 1 ∧ WX.heap.size + 1 < ((WX.alloc zb3).alloc zb3).drew.heap.size ∧ WX.heap.size + 1 ≠ WX.heap.size) := Lib.hid (by refine ⟨?_, ?_, ?_⟩ <;> first | omega | (simp; done) | (simp; omega))
    have P2 := Lib.hid (ARM1.out ((WX.alloc zb3).alloc zb3).drew (WX.heap.size + 1) (by (repeat (first | with_reducible exact Below.refl _ _ | with_reducible apply Below.drew | with_reducible apply below_al))) (show (((WX.alloc zb3).alloc zb3)).heap[WX.heap.size + 1]? = some zb3 from heap_alloc_at _ _ _ (by simp)) (by omega))
    have A2 := Lib.hid (show (((WX.alloc zb3).alloc zb3)).heap[WX.heap.size]? = some zb3 from up0 (heap_alloc_at _ _ _ (by simp)))
    have L2 : Hid (WX.heap.size ≤ WX.heap.size ∧ WX.heap.size < ((WX.alloc zb3).alloc zb3).drew.heap.size ∧ WX.heap.size ≠ WX.heap.size + 1) := Lib.hid (by refine ⟨?_, ?_, ?_⟩ <;> first | omega | (simp; done) | (simp; omega))
    have P3 := Lib.hid (ARM1.out ((WX.alloc zb3).alloc zbox).drew (WX.heap.size) (by (repeat (first | with_reducible exact Below.refl _ _ | with_reducible apply Below.drew | with_reducible apply below_al))) (show (((WX.alloc zb3).alloc zbox)).heap[WX.heap.size]? = some zb3 from up0 (heap_alloc_at _ _ _ (by simp))) (by omega))
    have C3 := Lib.hid (show (((WX.alloc zb3).alloc zbox)).heap[WX.heap.size + 1]? = some zbox from heap_alloc_at _ _ _ (by simp))
    have D3 : Hid (WX.heap.size ≤ WX.heap.size + 1 ∧ WX.heap.size + 1 < ((WX.alloc zb3).alloc zbox).drew.heap.size ∧ WX.heap.size + 1 ≠ WX.heap.size) := Lib.hid (by refine ⟨?_, ?_, ?_⟩ <;> first | omega | (simp; done) | (simp; omega))
    have P4 := Lib.hid (ARM1.out ((WX.alloc zbox).alloc zb3).drew (WX.heap.size + 1) (by (repeat (first | with_reducible exact Below.refl _ _ | with_reducible apply Below.drew | with_reducible apply below_al))) (show (((WX.alloc zbox).alloc zb3)).heap[WX.heap.size + 1]? = some zb3 from heap_alloc_at _ _ _ (by simp)) (by omega))
    have C4 := Lib.hid (show (((WX.alloc zbox).alloc zb3)).heap[WX.heap.size]? = some zbox from up0 (heap_alloc_at _ _ _ (by simp)))
    have D4 : Hid (WX.heap.size ≤ WX.heap.size ∧ WX.heap.size < ((WX.alloc zbox).alloc zb3).drew.heap.size ∧ WX.heap.size ≠ WX.heap.size + 1) := Lib.hid (by refine ⟨?_, ?_, ?_⟩ <;> first | omega | (simp; done) | (simp; omega))
    have P5 := Lib.hid (ARM1.out (((WX.alloc zb3).alloc zb3).alloc zbox).drew (WX.heap.size) (by (repeat (first | with_reducible exact Below.refl _ _ | with_reducible apply Below.drew | with_reducible apply below_al))) (show ((((WX.alloc zb3).alloc zb3).alloc zbox)).heap[WX.heap.size]? = some zb3 from up0 (up0 (heap_alloc_at _ _ _ (by simp)))) (by omega))
    have A5 := Lib.hid (show ((((WX.alloc zb3).alloc zb3).alloc zbox)).heap[WX.heap.size + 1]? = some zb3 from up0 (heap_alloc_at _ _ _ (by simp)))
    have L5 : Hid (WX.heap.size ≤ WX.heap.size + 1 ∧ WX.heap.size + 1 < (((WX.alloc zb3).alloc zb3).alloc zbox).drew.heap.size ∧ WX.heap.size + 1 ≠ WX.heap.size) := Lib.hid (by refine ⟨?_, ?_, ?_⟩ <;> first | omega | (simp; done) | (simp; omega))
    have C5 := Lib.hid (show ((((WX.alloc zb3).alloc zb3).alloc zbox)).heap[WX.heap.size + 1 + 1]? = some zbox from heap_alloc_at _ _ _ (by simp))
    have D5 : Hid (WX.heap.size ≤ WX.heap.size + 1 + 1 ∧ WX.heap.size + 1 + 1 < (((WX.alloc zb3).alloc zb3).alloc zbox).drew.heap.size ∧ WX.heap.size + 1 + 1 ≠ WX.heap.size) := Lib.hid (by refine ⟨?_, ?_, ?_⟩ <;> first | omega | (simp; done) | (simp; omega))
    have P6 := Lib.hid (ARM1.out (((WX.alloc zb3).alloc zbox).alloc zb3).drew (WX.heap.size) (by (repeat (first | with_reducible exact Below.refl _ _ | with_reducible apply Below.drew | with_reducible apply below_al))) (show ((((WX.alloc zb3).alloc zbox).alloc zb3)).heap[WX.heap.size]? = some zb3 from up0 (up0 (heap_alloc_at _ _ _ (by simp)))) (by omega))
    have A6 := Lib.hid (show ((((WX.alloc zb3).alloc zbox).alloc zb3)).heap[WX.heap.size + 1 + 1]? = some zb3 from heap_alloc_at _ _ _ (by simp))
    have L6 : Hid (WX.heap.size ≤ WX.heap.size + 1 + 1 ∧ WX.heap.size + 1 + 1 < (((WX.alloc zb3).alloc zbox).alloc zb3).drew.heap.size ∧ WX.heap.size + 1 + 1 ≠ WX.heap.size) := Lib.hid (by refine ⟨?_, ?_, ?_⟩ <;> first | omega | (simp; done) | (simp; omega))
    have C6 := Lib.hid (show ((((WX.alloc zb3).alloc zbox).alloc zb3)).heap[WX.heap.size + 1]? = some zbox from up0 (heap_alloc_at _ _ _ (by simp)))
    have D6 : Hid (WX.heap.size ≤ WX.heap.size + 1 ∧ WX.heap.size + 1 < (((WX.alloc zb3).alloc zbox).alloc zb3).drew.heap.size ∧ WX.heap.size + 1 ≠ WX.heap.size) := Lib.hid (by refine ⟨?_, ?_, ?_⟩ <;> first | omega | (simp; done) | (simp; omega))
    have P7 := Lib.hid (ARM1.out (((WX.alloc zb3).alloc zb3).alloc zbox).drew (WX.heap.size + 1) (by (repeat (first | with_reducible exact Below.refl _ _ | with_reducible apply Below.drew | with_reducible apply below_al))) (show ((((WX.alloc zb3).alloc zb3).alloc zbox)).heap[WX.heap.size + 1]? = some zb3 from up0 (heap_alloc_at _ _ _ (by simp))) (by omega))
    have A7 := Lib.hid (show ((((WX.alloc zb3).alloc zb3).alloc zbox)).heap[WX.heap.size]? = some zb3 from up0 (up0 (heap_alloc_at _ _ _ (by simp))))
    have L7 : Hid (WX.heap.size ≤ WX.heap.size ∧ WX.heap.size < (((WX.alloc zb3).alloc zb3).alloc zbox).drew.heap.size ∧ WX.heap.size ≠ WX.heap.size + 1) := Lib.hid (by refine ⟨?_, ?_, ?_⟩ <;> first | omega | (simp; done) | (simp; omega))
    have C7 := Lib.hid (show ((((WX.alloc zb3).alloc zb3).alloc zbox)).heap[WX.heap.size + 1 + 1]? = some zbox from heap_alloc_at _ _ _ (by simp))
    have D7 : Hid (WX.heap.size ≤ WX.heap.size + 1 + 1 ∧ WX.heap.size + 1 + 1 < (((WX.alloc zb3).alloc zb3).alloc zbox).drew.heap.size ∧ WX.heap.size + 1 + 1 ≠ WX.heap.size + 1) := Lib.hid (by refine ⟨?_, ?_, ?_⟩ <;> first | omega | (simp; done) | (simp; omega))
    have P8 := Lib.hid (ARM1.out (((WX.alloc zb3).alloc zbox).alloc zb3).drew (WX.heap.size + 1 + 1) (by (repeat (first | with_reducible exact Below.refl _ _ | with_reducible apply Below.drew | with_reducible apply below_al))) (show ((((WX.alloc zb3).alloc zbox).alloc zb3)).heap[WX.heap.size + 1 + 1]? = some zb3 from heap_alloc_at _ _ _ (by simp)) (by omega))
    have A8 := Lib.hid (show ((((WX.alloc zb3).alloc zbox).alloc zb3)).heap[WX.heap.size]? = some zb3 from up0 (up0 (heap_alloc_at _ _ _ (by simp))))
    have L8 : Hid (WX.heap.size ≤ WX.heap.size ∧ WX.heap.size < (((WX.alloc zb3).alloc zbox).alloc zb3).drew.heap.size ∧ WX.heap.size ≠ WX.heap.size + 1 + 1) := Lib.hid (by refine ⟨?_, ?_, ?_⟩ <;> first | omega | (simp; done) | (simp; omega))
    have C8 := Lib.hid (show ((((WX.alloc zb3).alloc zbox).alloc zb3)).heap[WX.heap.size + 1]? = some zbox from up0 (heap_alloc_at _ _ _ (by simp)))
    have D8 : Hid (WX.heap.size ≤ WX.heap.size + 1 ∧ WX.heap.size + 1 < (((WX.alloc zb3).alloc zbox).alloc zb3).drew.heap.size ∧ WX.heap.size + 1 ≠ WX.heap.size + 1 + 1) := Lib.hid (by refine ⟨?_, ?_, ?_⟩ <;> first | omega | (simp; done) | (simp; omega))
    have P9 := Lib.hid (ARM1.out (((WX.alloc zbox).alloc zb3).alloc zb3).drew (WX.heap.size + 1) (by (repeat (first | with_reducible exact Below.refl _ _ | with_reducible apply Below.drew | with_reducible apply below_al))) (show ((((WX.alloc zbox).alloc zb3).alloc zb3)).heap[WX.heap.size + 1]? = some zb3 from up0 (heap_alloc_at _ _ _ (by simp))) (by omega))
    have A9 := Lib.hid (show ((((WX.alloc zbox).alloc zb3).alloc zb3)).heap[WX.heap.size + 1 + 1]? = some zb3 from heap_alloc_at _ _ _ (by simp))
    have L9 : Hid (WX.heap.size ≤ WX.heap.size + 1 + 1 ∧ WX.heap.size + 1 + 1 < (((WX.alloc zbox).alloc zb3).alloc zb3).drew.heap.size ∧ WX.heap.size + 1 + 1 ≠ WX.heap.size + 1) := Lib.hid (by refine ⟨?_, ?_, ?_⟩ <;> first | omega | (simp; done) | (simp; omega))
    have C9 := Lib.hid (show ((((WX.alloc zbox).alloc zb3).alloc zb3)).heap[WX.heap.size]? = some zbox from up0 (up0 (heap_alloc_at _ _ _ (by simp))))
    have D9 : Hid (WX.heap.size ≤ WX.heap.size ∧ WX.heap.size < (((WX.alloc zbox).alloc zb3).alloc zb3).drew.heap.size ∧ WX.heap.size ≠ WX.heap.size + 1) := Lib.hid (by refine ⟨?_, ?_, ?_⟩ <;> first | omega | (simp; done) | (simp; omega))
    have P10 := Lib.hid (ARM1.out (((WX.alloc zbox).alloc zb3).alloc zb3).drew (WX.heap.size + 1 + 1) (by (repeat (first | with_reducible exact Below.refl _ _ | with_reducible apply Below.drew | with_reducible apply below_al))) (show ((((WX.alloc zbox).alloc zb3).alloc zb3)).heap[WX.heap.size + 1 + 1]? = some zb3 from heap_alloc_at _ _ _ (by simp)) (by omega))
    have A10 := Lib.hid (show ((((WX.alloc zbox).alloc zb3).alloc zb3)).heap[WX.heap.size + 1]? = some zb3 from up0 (heap_alloc_at _ _ _ (by simp)))
    have L10 : Hid (WX.heap.size ≤ WX.heap.size + 1 ∧ WX.heap.size + 1 < (((WX.alloc zbox).alloc zb3).alloc zb3).drew.heap.size ∧ WX.heap.size + 1 ≠ WX.heap.size + 1 + 1) := Lib.hid (by refine ⟨?_, ?_, ?_⟩ <;> first | omega | (simp; done) | (simp; omega))
    have C10 := Lib.hid (show ((((WX.alloc zbox).alloc zb3).alloc zb3)).heap[WX.heap.size]? = some zbox from up0 (up0 (heap_alloc_at _ _ _ (by simp))))
    have D10 : Hid (WX.heap.size ≤ WX.heap.size ∧ WX.heap.size < (((WX.alloc zbox).alloc zb3).alloc zb3).drew.heap.size ∧ WX.heap.size ≠ WX.heap.size + 1 + 1) := Lib.hid (by refine ⟨?_, ?_, ?_⟩ <;> first | omega | (simp; done) | (simp; omega))
    go_region_held3 (fun W => W.cell? ⟨w2.heap.size, 0, none⟩ = some (.int .i64 3) ∧ W.cell? ⟨w2.heap.size, 1, none⟩ = some (.string ⟨#[]⟩) ∧ W.cell? ⟨w2.heap.size, 2, none⟩ = some (.int .i64 0) ∧ W.cell? ⟨w2.heap.size, 3, none⟩ = some (.slice none 0 0) ∧ W.cell? ⟨w2.heap.size + 1, 0, none⟩ = some (.int .i64 0) ∧ W.cell? ⟨w2.heap.size + 1, 1, none⟩ = some (.string ⟨#[102]⟩) ∧ W.cell? ⟨w2.heap.size + 1, 2, none⟩ = some (.int .i64 0) ∧ W.cell? ⟨w2.heap.size + 1, 3, none⟩ = some (.slice none 0 0)) (first
        | (with_reducible refine (CX.out.below ?_).cells; (repeat (first | with_reducible exact Below.refl _ _ | with_reducible apply Below.drew | with_reducible apply below_al)); done)
        | (with_reducible refine (CC7.below ?_).cells; (repeat (first | with_reducible exact Below.refl _ _ | with_reducible apply Below.drew | with_reducible apply below_al)); done)
        | (with_reducible refine (CC8.below ?_).cells; (repeat (first | with_reducible exact Below.refl _ _ | with_reducible apply Below.drew | with_reducible apply below_al)); done)
        | (with_reducible refine (CC8.far ?_ ?_ _ _ _ _).cells <;> (have := HSX.out; have := X7.size; omega))) (first
      | (go_at_call 14; (first
          | ((with_reducible refine P0.out.mono ?_); rintro e w7 ⟨H7, cs7, rfl, BB7, X7, R7, ST7, CC7, HN7⟩; have FB7 := fun n o => Below.blk (b := n) (o := o) BB7; have ARM2 := Lib.hid (fun W g hW hb hg hn => works_7b X7 ST7 HFW.out CC7 h3.out h4.out HB34.out R7 W g hW hb hg hn); obtain ⟨xa, xc, rfl, -, -, -, -⟩ := R7.open_)
          | ((with_reducible refine P1.out.mono ?_); rintro e w7 ⟨H7, cs7, rfl, BB7, X7, R7, ST7, CC7, HN7⟩; have FB7 := fun n o => Below.blk (b := n) (o := o) BB7; have ARM2 := Lib.hid (fun W g hW hb hg hn => works_7b X7 ST7 HFW.out CC7 h3.out h4.out HB34.out R7 W g hW hb hg hn); have B29 := FB7 _ _ A1.out; have G29 := L1.out.1; have N29 := HN7 _ L1.out.1 L1.out.2.1 L1.out.2.2; obtain ⟨xa, xc, rfl, -, -, -, -⟩ := R7.open_)
          | ((with_reducible refine P2.out.mono ?_); rintro e w7 ⟨H7, cs7, rfl, BB7, X7, R7, ST7, CC7, HN7⟩; have FB7 := fun n o => Below.blk (b := n) (o := o) BB7; have ARM2 := Lib.hid (fun W g hW hb hg hn => works_7b X7 ST7 HFW.out CC7 h3.out h4.out HB34.out R7 W g hW hb hg hn); have B29 := FB7 _ _ A2.out; have G29 := L2.out.1; have N29 := HN7 _ L2.out.1 L2.out.2.1 L2.out.2.2; obtain ⟨xa, xc, rfl, -, -, -, -⟩ := R7.open_)
          | ((with_reducible refine P3.out.mono ?_); rintro e w7 ⟨H7, cs7, rfl, BB7, X7, R7, ST7, CC7, HN7⟩; have FB7 := fun n o => Below.blk (b := n) (o := o) BB7; have ARM2 := Lib.hid (fun W g hW hb hg hn => works_7b X7 ST7 HFW.out CC7 h3.out h4.out HB34.out R7 W g hW hb hg hn); have B5 := FB7 _ _ C3.out; have G5 := D3.out.1; have N5 := HN7 _ D3.out.1 D3.out.2.1 D3.out.2.2; obtain ⟨xa, xc, rfl, -, -, -, -⟩ := R7.open_)
          | ((with_reducible refine P4.out.mono ?_); rintro e w7 ⟨H7, cs7, rfl, BB7, X7, R7, ST7, CC7, HN7⟩; have FB7 := fun n o => Below.blk (b := n) (o := o) BB7; have ARM2 := Lib.hid (fun W g hW hb hg hn => works_7b X7 ST7 HFW.out CC7 h3.out h4.out HB34.out R7 W g hW hb hg hn); have B5 := FB7 _ _ C4.out; have G5 := D4.out.1; have N5 := HN7 _ D4.out.1 D4.out.2.1 D4.out.2.2; obtain ⟨xa, xc, rfl, -, -, -, -⟩ := R7.open_)
          | ((with_reducible refine P5.out.mono ?_); rintro e w7 ⟨H7, cs7, rfl, BB7, X7, R7, ST7, CC7, HN7⟩; have FB7 := fun n o => Below.blk (b := n) (o := o) BB7; have ARM2 := Lib.hid (fun W g hW hb hg hn => works_7b X7 ST7 HFW.out CC7 h3.out h4.out HB34.out R7 W g hW hb hg hn); have B29 := FB7 _ _ A5.out; have G29 := L5.out.1; have N29 := HN7 _ L5.out.1 L5.out.2.1 L5.out.2.2; have B5 := FB7 _ _ C5.out; have G5 := D5.out.1; have N5 := HN7 _ D5.out.1 D5.out.2.1 D5.out.2.2; obtain ⟨xa, xc, rfl, -, -, -, -⟩ := R7.open_)
          | ((with_reducible refine P6.out.mono ?_); rintro e w7 ⟨H7, cs7, rfl, BB7, X7, R7, ST7, CC7, HN7⟩; have FB7 := fun n o => Below.blk (b := n) (o := o) BB7; have ARM2 := Lib.hid (fun W g hW hb hg hn => works_7b X7 ST7 HFW.out CC7 h3.out h4.out HB34.out R7 W g hW hb hg hn); have B29 := FB7 _ _ A6.out; have G29 := L6.out.1; have N29 := HN7 _ L6.out.1 L6.out.2.1 L6.out.2.2; have B5 := FB7 _ _ C6.out; have G5 := D6.out.1; have N5 := HN7 _ D6.out.1 D6.out.2.1 D6.out.2.2; obtain ⟨xa, xc, rfl, -, -, -, -⟩ := R7.open_)
          | ((with_reducible refine P7.out.mono ?_); rintro e w7 ⟨H7, cs7, rfl, BB7, X7, R7, ST7, CC7, HN7⟩; have FB7 := fun n o => Below.blk (b := n) (o := o) BB7; have ARM2 := Lib.hid (fun W g hW hb hg hn => works_7b X7 ST7 HFW.out CC7 h3.out h4.out HB34.out R7 W g hW hb hg hn); have B29 := FB7 _ _ A7.out; have G29 := L7.out.1; have N29 := HN7 _ L7.out.1 L7.out.2.1 L7.out.2.2; have B5 := FB7 _ _ C7.out; have G5 := D7.out.1; have N5 := HN7 _ D7.out.1 D7.out.2.1 D7.out.2.2; obtain ⟨xa, xc, rfl, -, -, -, -⟩ := R7.open_)
          | ((with_reducible refine P8.out.mono ?_); rintro e w7 ⟨H7, cs7, rfl, BB7, X7, R7, ST7, CC7, HN7⟩; have FB7 := fun n o => Below.blk (b := n) (o := o) BB7; have ARM2 := Lib.hid (fun W g hW hb hg hn => works_7b X7 ST7 HFW.out CC7 h3.out h4.out HB34.out R7 W g hW hb hg hn); have B29 := FB7 _ _ A8.out; have G29 := L8.out.1; have N29 := HN7 _ L8.out.1 L8.out.2.1 L8.out.2.2; have B5 := FB7 _ _ C8.out; have G5 := D8.out.1; have N5 := HN7 _ D8.out.1 D8.out.2.1 D8.out.2.2; obtain ⟨xa, xc, rfl, -, -, -, -⟩ := R7.open_)
          | ((with_reducible refine P9.out.mono ?_); rintro e w7 ⟨H7, cs7, rfl, BB7, X7, R7, ST7, CC7, HN7⟩; have FB7 := fun n o => Below.blk (b := n) (o := o) BB7; have ARM2 := Lib.hid (fun W g hW hb hg hn => works_7b X7 ST7 HFW.out CC7 h3.out h4.out HB34.out R7 W g hW hb hg hn); have B29 := FB7 _ _ A9.out; have G29 := L9.out.1; have N29 := HN7 _ L9.out.1 L9.out.2.1 L9.out.2.2; have B5 := FB7 _ _ C9.out; have G5 := D9.out.1; have N5 := HN7 _ D9.out.1 D9.out.2.1 D9.out.2.2; obtain ⟨xa, xc, rfl, -, -, -, -⟩ := R7.open_)
          | ((with_reducible refine P10.out.mono ?_); rintro e w7 ⟨H7, cs7, rfl, BB7, X7, R7, ST7, CC7, HN7⟩; have FB7 := fun n o => Below.blk (b := n) (o := o) BB7; have ARM2 := Lib.hid (fun W g hW hb hg hn => works_7b X7 ST7 HFW.out CC7 h3.out h4.out HB34.out R7 W g hW hb hg hn); have B29 := FB7 _ _ A10.out; have G29 := L10.out.1; have N29 := HN7 _ L10.out.1 L10.out.2.1 L10.out.2.2; have B5 := FB7 _ _ C10.out; have G5 := D10.out.1; have N5 := HN7 _ D10.out.1 D10.out.2.1 D10.out.2.2; obtain ⟨xa, xc, rfl, -, -, -, -⟩ := R7.open_)))
      | (go_at_call 19; (first
          | ((with_reducible refine (ARM2.out w7 _ (Below.refl _ _) B29 G29 N29).mono ?_); rintro e w8 ⟨H8, cs8, rfl, X8, R8, ST8, CC8, FB8, HS8⟩; obtain ⟨ya, yc, rfl, -, -, -, -⟩ := R8.open_; (try (have M5 := FB8 _ _ G5 B5; have K5 := M5.2.2 N5 (by omega); have G55 := G5; obtain ⟨q0, q1, q2, q3, q4, q5, q6, q7, q8⟩ := box4 M5.1)))
          | ((with_reducible refine (ARM2.out (w7.alloc zbox) _ (below_alloc _ _) (up0 B29) G29 N29).mono ?_); rintro e w8 ⟨H8, cs8, rfl, X8, R8, ST8, CC8, FB8, HS8⟩; obtain ⟨ya, yc, rfl, -, -, -, -⟩ := R8.open_; have M5 := FB8 w7.heap.size zbox X7.size (heap_alloc_new _ _); have K5 := M5.2.2 (X7.agree.free (Nat.le_refl _)) (fun e => by have := cell_lt B29; omega); have G55 := X7.size; obtain ⟨q0, q1, q2, q3, q4, q5, q6, q7, q8⟩ := box4 M5.1)
          | ((with_reducible refine (ARM2.out (w7.alloc zb3) w7.heap.size (below_alloc _ _) (heap_alloc_new _ _) X7.size (X7.agree.free (Nat.le_refl _))).mono ?_); rintro e w8 ⟨H8, cs8, rfl, X8, R8, ST8, CC8, FB8, HS8⟩; obtain ⟨ya, yc, rfl, -, -, -, -⟩ := R8.open_; (try (have M5 := FB8 _ _ G5 (up0 B5); have K5 := M5.2.2 N5 (fun e => by have := cell_lt B5; omega); have G55 := G5; obtain ⟨q0, q1, q2, q3, q4, q5, q6, q7, q8⟩ := box4 M5.1)))
          | ((with_reducible refine (ARM2.out ((w7.alloc zb3).alloc zbox) w7.heap.size (below_al (below_alloc _ _)) (up0 (heap_alloc_new _ _)) X7.size (X7.agree.free (Nat.le_refl _))).mono ?_); rintro e w8 ⟨H8, cs8, rfl, X8, R8, ST8, CC8, FB8, HS8⟩; obtain ⟨ya, yc, rfl, -, -, -, -⟩ := R8.open_; have M5 := FB8 (w7.heap.size + 1) zbox (Nat.le_succ_of_le X7.size) (heap_alloc_at _ _ _ (by simp)); have K5 := M5.2.2 (X7.agree.free (Nat.le_succ _)) (by omega); have G55 := Nat.le_succ_of_le X7.size; obtain ⟨q0, q1, q2, q3, q4, q5, q6, q7, q8⟩ := box4 M5.1)
          | ((with_reducible refine (ARM2.out ((w7.alloc zbox).alloc zb3) (w7.heap.size + 1) (below_al (below_alloc _ _)) (heap_alloc_at _ _ _ (by simp)) (Nat.le_succ_of_le X7.size) (X7.agree.free (Nat.le_succ _))).mono ?_); rintro e w8 ⟨H8, cs8, rfl, X8, R8, ST8, CC8, FB8, HS8⟩; obtain ⟨ya, yc, rfl, -, -, -, -⟩ := R8.open_; have M5 := FB8 w7.heap.size zbox X7.size (up0 (heap_alloc_new _ _)); have K5 := M5.2.2 (X7.agree.free (Nat.le_refl _)) (by omega); have G55 := X7.size; obtain ⟨q0, q1, q2, q3, q4, q5, q6, q7, q8⟩ := box4 M5.1)))
      )
    all_goals
      go_wp2_with fail
      go_meet
      first
        | exact mid_before EX.out (fun k hk => ⟨(hFs.out k hk).1, HFW.out k hk⟩) X8 R8 ST8 CC8 h3.out h4.out HB34.out HS8 M5.1 M5.2.1 K5 G55
        | exact mid_after EX.out (fun k hk => ⟨(hFs.out k hk).1, HFW.out k hk⟩) X8 R8 ST8 CC8 h3.out h4.out HB34.out HS8
  case rest =>
    obtain ⟨G, H', g, ta, tc, rfl, rfl, rfl, P, ST, nG, n3, n4, hGF, RT, BT', C3, C4⟩ := hcut
    have K0 := Lib.hid (show WST H w w.heap.size w2.heap.size (w2.heap.size + 1) g ta tc G H' wc from ⟨P, ST, hGF, RT, BT', ⟨C3, C4⟩, nG, n3, n4⟩)
    clear P ST nG n3 n4 hGF RT BT' C3 C4 EX SX CX h3 h4 hFs HSX E2
    have hinv := Lib.hid (works_invert (K0.out.P.agree.alloc zb3) (K0.out.alloc zb3).ST (heap_alloc_new wc zb3) K0.out.free.1 K0.out.free.2.2 (rep_wo H') (by decide) (by decide) (by decide))
    obtain ⟨c0, c1, c2, c3, d0, d1, d2, d3, g0, g1, g2, g3⟩ := K0.out.cells
    have hb3 := cell_lt K0.out.C.1
    go_wp2_with fail
    refine hinv.out.mono ?_
    unfold InvertPost
    rw [works_2]
    rintro e w3 ⟨H3, cs3, rfl, X3, R3, S3⟩
    dsimp only at S3 R3
    have KS := K0.out.slice zb3
    have K3 : Hid (WST H w w.heap.size w2.heap.size (w2.heap.size + 1) g ta tc (fun k => (G k ∨ (wc.alloc zb3).heap.size ≤ k) ∧ k < w3.heap.size) H3 w3) := Lib.hid ⟨KS.P.trans X3 (fun k hk hlt => absurd hlt (by have := (KS.hF k hk).1; omega)), S3.tight, fun k hk => ⟨hk.1.elim (fun h => (KS.hF k h).1) (fun h => Nat.le_trans KS.P.size h), hk.2⟩, KS.R.mono X3.sub, (X3.block _ (cell_lt KS.B) KS.nG).trans KS.B, ⟨(X3.block _ (cell_lt KS.C.1) KS.n3).trans KS.C.1, (X3.block _ (cell_lt KS.C.2) KS.n4).trans KS.C.2⟩, fun h => h.1.elim KS.nG (fun h => by have := cell_lt KS.B; omega), fun h => h.1.elim KS.n3 (fun h => by have := cell_lt KS.C.1; omega), fun h => h.1.elim KS.n4 (fun h => by have := cell_lt KS.C.2; omega)⟩
    obtain ⟨ra, rc, rfl, -, -, -, -⟩ := R3.open_
    have K4 := Lib.hid (K3.out.alloc (tbox Tm.zero ra rc))
    clear hinv KS X3 S3 R3 K0 K3 c0 c1 c2 c3 d0 d1 d2 d3 g0 g1 g2 g3 hb3
    generalize (fun k => (G k ∨ (wc.alloc zb3).heap.size ≤ k) ∧ k < w3.heap.size) = F4 at K4
    go_upto_region 9 with fail
    generalize hW4 : w3.alloc (tbox Tm.zero ra rc) = w4 at *
    clear hW4
    obtain ⟨c0, c1, c2, c3, d0, d1, d2, d3, g0, g1, g2, g3⟩ := K4.out.cells
    have hb3 := cell_lt K4.out.C.1
    have K5 := Lib.hid (K4.out.slice zb3)
    have hap := Lib.hid (works_apply (rep_wo H3) (K4.out.alloc zb3).P.agree (heap_alloc_new w4 zb3) K4.out.free.1 (by intro h; cases h) (by decide))
    go_wp2_with fail
    refine hap.out.mono ?_
    rintro e w5 ⟨H5, cs5, rfl, X5, R5⟩
    have K6 := Lib.hid (K5.out.pure X5)
    have hlm := Lib.hid (term_Lams 1 (wo.apply [wz]) cs5 H5 w5 (by unfold LB; omega) X5.agree R5)
    obtain ⟨xa, xc, rfl, -, -, -, -⟩ := R5.open_
    clear hap X5 R5 c0 c1 c2 c3 d0 d1 d2 d3 g0 g1 g2 g3 hb3
    go_wp2_with fail
    refine hlm.out.mono ?_
    rintro e w6 ⟨H6, cs6, rfl, X6, R6⟩
    have K7 := Lib.hid (K6.out.pure X6)
    have HR6 := Lib.hid R6
    obtain ⟨ya, yc, rfl, -, -, -, -⟩ := R6.open_
    have har := Lib.hid (works_args (K7.out.alloc (tbox (Tm.lams 1 (wo.apply [wz])) ya yc)).P.agree (K7.out.alloc (tbox (Tm.lams 1 (wo.apply [wz])) ya yc)).ST (heap_alloc_new w6 (tbox (Tm.lams 1 (wo.apply [wz])) ya yc)) K7.out.free.1 K7.out.free.2.2 HR6.out (fun _ => by decide) (by decide))
    have K8 := Lib.hid (K7.out.slice (tbox (Tm.lams 1 (wo.apply [wz])) ya yc))
    clear hlm X6 R6
    go_wp2_with fail
    refine har.out.mono ?_
    unfold ArgsPost
    rw [works_3]
    rintro e w7 ⟨H7, v7, rfl, X7, T7⟩
    dsimp only at T7
    obtain ⟨va, vc, rfl, -, -⟩ := T7.form
    have K9 := Lib.hid (K8.out.pure X7)
    have har2 := Lib.hid (works_args (t := wf) (a := none) (c := 0) (K9.out.alloc fb4).P.agree (K9.out.alloc fb4).ST (heap_alloc_new w7 fb4) K9.out.free.1 K9.out.free.2.2 (rep_wf H7) (fun _ => by decide) (by decide))
    have K10 := Lib.hid (K9.out.slice fb4)
    obtain ⟨c0, c1, c2, c3, d0, d1, d2, d3, g0, g1, g2, g3⟩ := K9.out.cells
    have hb3 := cell_lt K9.out.C.1
    have hb4 := cell_lt K9.out.C.2
    clear har X7 T7
    go_wp2_with fail
    refine har2.out.mono ?_
    unfold ArgsPost
    rw [works_4]
    rintro e w8 ⟨H8, v8, rfl, X8, T8⟩
    dsimp only at T8
    obtain ⟨ua, uc, rfl, -, -⟩ := T8.form
    have K11 := Lib.hid (K10.out.pure X8)
    clear har2 X8 T8 c0 c1 c2 c3 d0 d1 d2 d3 g0 g1 g2 g3 hb3 hb4 K4 K5 K6 K7 K8 K9 K10
    go_upto_region 11 with fail
    have KA := K11.out.drew
    have KB := (K11.out.alloc zb3).drew
    have KP := Lib.hid ((K11.out.slice zb3).drew)
    have hap3 := Lib.hid (works_apply (rep_wf H8) KB.P.agree (show (w8.alloc zb3).drew.heap[w8.heap.size]? = some zb3 from heap_alloc_new w8 zb3) K11.out.free.1 (by intro h; cases h) (by decide))
    go_region_held3 (fun W => W.cell? ⟨w2.heap.size, 0, none⟩ = some (.int .i64 3) ∧ W.cell? ⟨w2.heap.size, 1, none⟩ = some (.string ⟨#[]⟩) ∧ W.cell? ⟨w2.heap.size, 2, none⟩ = some (.int .i64 0) ∧ W.cell? ⟨w2.heap.size, 3, none⟩ = some (.slice none 0 0) ∧ W.cell? ⟨w2.heap.size + 1, 0, none⟩ = some (.int .i64 0) ∧ W.cell? ⟨w2.heap.size + 1, 1, none⟩ = some (.string ⟨#[102]⟩) ∧ W.cell? ⟨w2.heap.size + 1, 2, none⟩ = some (.int .i64 0) ∧ W.cell? ⟨w2.heap.size + 1, 3, none⟩ = some (.slice none 0 0) ∧ W.cell? ⟨g, 0, none⟩ = some (.int .i64 TT.k) ∧ W.cell? ⟨g, 1, none⟩ = some (.string TT.s) ∧ W.cell? ⟨g, 2, none⟩ = some (.int .i64 TT.n) ∧ W.cell? ⟨g, 3, none⟩ = some (.slice ta TT.l.length tc)) (with_reducible (first | exact WST.cells KA | exact WST.cells KB | exact WST.cells KC | exact WST.cells KD | exact WST.cells KE)) (first
      | (go_at_call 14; ((with_reducible refine hap3.out.mono ?_); rintro e w9 ⟨H9, cs9, rfl, X9, R9⟩; have KC := KP.out.pure X9; have HLM := Lib.hid (term_Lams 1 (wf.apply [wz]) cs9 H9 w9 (by unfold LB; omega) X9.agree R9); obtain ⟨xa, xc, rfl, -, -, -, -⟩ := R9.open_))
      | (go_at_call 21; ((with_reducible refine HLM.out.mono ?_); rintro e w10 ⟨H10, cs10, rfl, X10, R10⟩; have KD := KC.pure X10; have HSM := Lib.hid (ref_Same TT TT _ cs10 H10 w10 KD.R R10 X10.agree); obtain ⟨ya, yc, rfl, -, -, -, -⟩ := R10.open_))
      | (go_at_call 15; ((with_reducible refine HSM.out.mono ?_); rintro e w11 ⟨rfl, hb11⟩; have KE := KD.pure (Ext.of_below KD.P.agree hb11))))
    have hss : TT.same TT = true := (Tm.same_iff _ _).2 rfl
    rw [hss]
    have KF := Lib.hid KE.P.below
    clear KA KB KC KD KE
    go_wp2_with fail
    go_ret
    exact ⟨rfl, KF.out⟩
end Go.Proofs.Ytbdappbmlnpogaa
