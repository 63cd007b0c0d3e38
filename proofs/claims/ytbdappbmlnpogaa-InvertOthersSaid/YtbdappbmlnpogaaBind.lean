/- Package store in memory: Bind. -/
import Derived.Test.YtbdappbmlnpogaaFresh
namespace Go.Proofs.Ytbdappbmlnpogaa
open Go Go.RowKit
set_option maxRecDepth 100000
/-- The numbers that Loose reckons with. -/
theorem looseQ_valid {t : Tm} (h : t.valid = true) (hs : t.size ≤ SB) : ∀ p ∈ t.leaves 0, LooseQ p.1 p.2 := by
  intro p hp
  obtain ⟨h1, h2, h3, h4, h5, h6⟩ := Tm.leaves_valid t 0 h p hp
  unfold SB at hs
  exact ⟨fun e => by have := Tm.bound_of_valid h1 e; unfold Tm.far at this; exact this, by omega, by omega⟩
def BindPost (F : Nat → Prop) (H : GH) (w : World) (s : Nat) (S : St) (x : Int) (t : Tm) (e : Ending) (w' : World) : Prop :=
  e = .returned (.int .i64 (S.bind x t).2) ∧ Ext F H w H w' ∧ StAt H w' (fun k => F k ∨ w.heap.size ≤ k) s (S.bind x t).1
theorem bind_no {F : Nat → Prop} {H : GH} {w w' : World} {s : Nat} {S : St} {x : Int} {t : Tm} (hS : StAt H w F s S) (hx : Pure H w H w') (hb : (S.info x).2 = false ∨ (S.info x).1.bd = true ∨ t.valid = false ∨ 0 < t.loose) : BindPost F H w s S x t (.returned (.int .i64 1)) w' := by
  have : S.bind x t = (S, 1) := by unfold St.bind; rw [if_pos hb]
  unfold BindPost
  rw [this]
  exact ⟨rfl, hx.mono (fun _ h => h.elim), (hS.pure hx).mono (fun _ h => .inl h)⟩
theorem setRow6 (w : World) (g o : Nat) (a b c d e f : Value) : setRow w g o [a, b, c, d, e, f] = (((((w.setCell ⟨g, o, none⟩ a).setCell ⟨g, o + 1, none⟩ b).setCell ⟨g, o + 2, none⟩ c).setCell ⟨g, o + 3, none⟩ d).setCell ⟨g, o + 4, none⟩ e).setCell ⟨g, o + 5, none⟩ f := rfl
/-- Behind the first store. -/
def BindMid (F : Nat → Prop) (H : GH) (w : World) (s : Nat) (S' : St) (wx : World) : Prop := Ext F H w H wx ∧ StAt H wx F s S'
/-- Behind the second. -/
theorem bind_fin {F : Nat → Prop} {H : GH} {w w5 w6 : World} {s : Nat} {V : List Inf} {T : List Int} {x : Int} {vi v1 : Value} {ta : Option Addr} {tc : Nat} (hM : Ext F H w H w5) (g1 : w5.heap[s]? = some (.cells #[vi, .slice ta T.length tc] 67 (0, 0))) (g2 : H s = none) (g3 : F s)
    (g4 : Own H w5 0 37 6 (RepI H) vi V) (g5 : Own H w5 0 3 1 IntP (.slice ta T.length tc) T) (g6 : ∀ g, vi.ownBlock = some g → F g ∧ g ≠ s) (g7 : ∀ g, (Value.slice ta T.length tc).ownBlock = some g → F g ∧ g ≠ s ∧ vi.ownBlock ≠ some g)
    (o : Obj) (own : Own H w6 0 3 1 IntP v1 (T ++ [x])) (hg : (w5.alloc o).grownBy w6 (Value.slice ta T.length tc).ownBlock) (hb : v1.ownBlock = (Value.slice ta T.length tc).ownBlock ∨ v1.ownBlock = some (w5.alloc o).heap.size) :
    Ext F H w H (w6.setCell ⟨s, 1, none⟩ v1) ∧ StAt H (w6.setCell ⟨s, 1, none⟩ v1) (fun k => F k ∨ w.heap.size ≤ k) s ⟨V, T ++ [x]⟩ := by
  have hlt := cell_lt g1
  have hbx := below_alloc w5 o
  have hb1 : w6.heap[s]? = some (.cells #[vi, .slice ta T.length tc] 67 (0, 0)) :=
    (hg.block s (by simp; omega) (fun e => (g7 s e.symm).2.1 rfl)).trans (Below.blk hbx g1)
  have E1 : Ext F H w H w6 := (hM.alloc o).grown hg g5.free (fun g hg _ => (g7 g hg).1)
  have hw := hM.size
  have hne : ∀ g, v1.ownBlock = some g → (F g ∨ w.heap.size ≤ g) ∧ g ≠ s ∧ vi.ownBlock ≠ some g := fun g hg => by
    rcases hb with e | e
    · rw [e] at hg; exact ⟨.inl (g7 g hg).1, (g7 g hg).2⟩
    · rw [e] at hg; injection hg with hg; subst hg
      refine ⟨.inr (by simp; omega), by simp; omega, fun e => ?_⟩
      have := (g4.lt _ e).2
      simp at this
      omega
  refine ⟨E1.setCell (p := ⟨s, 1, none⟩) g2 (fun _ => g3) v1, vi, v1, blk2_set1 hb1, g2, .inl g3, ?_, ?_, fun g hg => ⟨.inl (g6 g hg).1, (g6 g hg).2⟩, hne⟩
  · exact ((g4.below hbx).grown hg (fun g hg e => (g7 g e).2.2 hg)).grown (grown_set w6 s 1 v1) (fun g hg e => by injection e with e; exact (g6 g hg).2 e.symm)
  · exact own.grown (grown_set w6 s 1 v1) (fun g hg e => by injection e with e; exact (hne g hg).2.1 e.symm)
/-- A box of an Info. -/
theorem box6 {w : World} {b : Nat} {v0 v1 v2 v3 v4 v5 : Value} {T : TypeId} (h : w.heap[b]? = some (.cells #[v0, v1, v2, v3, v4, v5] T (0, 0))) :
    b < w.heap.size ∧ w.cell? ⟨b, 0, none⟩ = some v0 ∧ w.cell? ⟨b, 1, none⟩ = some v1 ∧ w.cell? ⟨b, 2, none⟩ = some v2 ∧ w.cell? ⟨b, 3, none⟩ = some v3 ∧ w.cell? ⟨b, 4, none⟩ = some v4 ∧ w.cell? ⟨b, 5, none⟩ = some v5 :=
  ⟨cell_lt h, (blk_cells h 0).1, (blk_cells h 1).1, (blk_cells h 2).1, (blk_cells h 3).1, (blk_cells h 4).1, (blk_cells h 5).1⟩
abbrev icells (i : Inf) (a : Option Addr) (cap : Nat) : Array Value := #[.int .i64 i.lv, .bool i.bd, .int .i64 i.vl.k, .string i.vl.s, .int .i64 i.vl.n, .slice a i.vl.l.length cap]
abbrev ibox (i : Inf) (a : Option Addr) (cap : Nat) : Obj := .cells (icells i a cap) 37 (0, 0)
set_option maxHeartbeats 4000000 in
theorem store_Bind {F : Nat → Prop} (H : GH) (w : World) (s : Nat) (S : St) (x : Int) (t : Tm) (cs : List Value) (hA : Agree H w) (hS : StAt H w F s S) (hR : Rep H t cs) (hx : I64 x) (hsz : t.size ≤ SB) (hn : S.T.length ≤ 1073741824) :
    Calls Try.prog 29 #[.pointer (some ⟨s, 0, none⟩), .int .i64 x, .agg cs.toArray] w (BindPost F H w s S x t) := by
  have h1 := Lib.hid (fun W hW => term_Valid t cs H W hR hW)
  have h2 := Lib.hid (fun W hW hv => term_Loose t cs H W (looseQ_valid hv hsz) (by unfold SB at hsz; unfold LB; omega) hW hR)
  have HR := Lib.hid hR
  obtain ⟨a, cap, rfl, -, -, -, -⟩ := hR.open_
  have E0 := Lib.hid ((Ext.refl (O := fun _ => False) hA).alloc (tbox t a cap))
  have B0 := Lib.hid (heap_alloc_new w (tbox t a cap))
  have hinf := Lib.hid (store_Info H _ s S x (hS.pure E0.out))
  have HS := Lib.hid hS
  have NO := Lib.hid (fun w' hx => bind_no (w' := w') (x := x) (t := t) hS hx)
  have HLT := Lib.hid hS.lt
  generalize hI : S.info x = I at *
  obtain ⟨i, ok⟩ := I
  have hI' := Lib.hid hI
  clear hI hR
  go_enter Try.func29, Try.ntmps29
  go_wp2_with fail
  refine hinf.out.mono ?_
  rintro e w1 ⟨ics, rfl, hb1, hRI⟩
  have E1 := Lib.hid (E0.out.then_below hb1)
  have HRI := Lib.hid hRI
  obtain ⟨tcs, rfl, hR1, hlv⟩ := hRI
  obtain ⟨ia, ic, rfl, -, -, -, -⟩ := hR1.open_
  have B1 := Lib.hid (Below.blk (below_alloc w1 (.cells #[.int .i64 i.lv, .bool i.bd, .int .i64 i.vl.k, .string i.vl.s, .int .i64 i.vl.n, .slice ia i.vl.l.length ic] 37 (0, 0))) (Below.blk hb1 B0.out))
  have B2 := Lib.hid (heap_alloc_new w1 (.cells #[.int .i64 i.lv, .bool i.bd, .int .i64 i.vl.k, .string i.vl.s, .int .i64 i.vl.n, .slice ia i.vl.l.length ic] 37 (0, 0)))
  have E2 := Lib.hid (E1.out.alloc (.cells #[.int .i64 i.lv, .bool i.bd, .int .i64 i.vl.k, .string i.vl.s, .int .i64 i.vl.n, .slice ia i.vl.l.length ic] 37 (0, 0)))
  clear hinf
  cases ok with
  | false =>
    go_wp2_with fail
    go_ret
    exact NO.out _ E2.out (by simp)
  | true =>
    cases hbd : i.bd with
    | true =>
      have hbd' := Lib.hid hbd
      rw [hbd] at E2
      go_wp2_with fail
      go_ret
      exact NO.out _ E2.out (by simp [hbd'.out])
    | false =>
      have hbd' := Lib.hid hbd
      rw [hbd] at E2 B1 B2
      obtain ⟨p0, p1, p2, p3, p4, p5, p6, p7, p8⟩ := box4 B1.out
      cases hv : t.valid with
      | false =>
        have hv' := Lib.hid hv
        have h1' := h1
        rw [hv] at h1'
        clear hv h1 h2 hbd
        go_wp2_with fail
        refine (h1'.out _ E2.out.agree).mono ?_
        rintro e w2 ⟨rfl, hb2⟩
        have E3 := Lib.hid (E2.out.then_below hb2)
        go_wp2_with fail
        go_ret
        exact NO.out _ E3.out (by simp [hv'.out])
      | true =>
        have hv' := Lib.hid hv
        have h2' := Lib.hid (fun W hW => h2.out W hW hv)
        have h1' := h1
        rw [hv] at h1'
        clear hv h1 h2 hbd
        go_wp2_with fail
        refine (h1'.out _ E2.out.agree).mono ?_
        rintro e w2 ⟨rfl, hb2⟩
        have E3 := Lib.hid (E2.out.then_below hb2)
        have B3 := Lib.hid (Below.blk hb2 B1.out)
        have B4 := Lib.hid (Below.blk hb2 B2.out)
        obtain ⟨q0, q1, q2, q3, q4, q5, q6, q7, q8⟩ := box4 B3.out
        clear p0 p1 p2 p3 p4 p5 p6 p7 p8
        go_wp2_with fail
        refine (h2'.out _ E3.out.agree).mono ?_
        rintro e w3 ⟨rfl, hb3⟩
        have E4 := Lib.hid (E3.out.then_below hb3)
        clear q0 q1 q2 q3 q4 q5 q6 q7 q8
        have B5 := Lib.hid (Below.blk hb3 B3.out)
        have B6 := Lib.hid (Below.blk hb3 B4.out)
        obtain ⟨q0, q1, q2, q3, q4, q5, q6, q7, q8⟩ := box4 B5.out
        obtain ⟨r0, r1, r2, r3, r4, r5, r6⟩ := box6 B6.out
        generalize hL : t.loose = L at *
        have hL' := Lib.hid hL
        clear hL
        by_cases hl : 0 < L
        · go_wp2_with fail
          go_ret
          exact NO.out _ E4.out (by simp [hl])
        · obtain ⟨vi, vt, g1, g2, g3, g4, g5, g6, g7⟩ := HS.out.pure E4.out
          obtain ⟨hlt, c0, c1, f0, f1⟩ := blk2 g1
          have hin : S.info x = (i, true) := hI'.out
          obtain ⟨j, rfl⟩ : ∃ j : Nat, x = j := by
            unfold St.info at hin
            split at hin
            · simp at hin
            · exact ⟨x.toNat, by omega⟩
          have hj : j < S.V.length := by
            unfold St.info at hin
            split at hin
            · simp at hin
            · omega
          obtain ⟨i', hi'⟩ : ∃ i', S.V[j]? = some i' := ⟨_, List.getElem?_eq_getElem hj⟩
          obtain ⟨g, gc, gcs, rfl, -, hP, hcell, hfz, hgl, hgm, hgw⟩ := g4.get (fun _ _ h => h.len) hi'
          obtain ⟨ta, tc, rfl, htl, htm⟩ := g5.form
          have hjI : (j : Int) < (S.V.length : Int) := by omega
          have k0 := hfz (j * 6)
          have k1 := hfz (j * 6 + 1)
          have k2 := hfz (j * 6 + 2)
          have k3 := hfz (j * 6 + 3)
          have k4 := hfz (j * 6 + 4)
          have k5 := hfz (j * 6 + 5)
          have HGL := Lib.hid hgl
          obtain ⟨gts, rfl, hgR, -⟩ := hP
          obtain ⟨ga, gp, rfl, -, -, -, -⟩ := hgR.open_
          have d0 := hcell 0 _ rfl
          have d1 := hcell 1 _ rfl
          have d2 := hcell 2 _ rfl
          have d3 := hcell 3 _ rfl
          have d4 := hcell 4 _ rfl
          have d5 := hcell 5 _ rfl
          simp only [Nat.add_zero] at d0
          clear hcell hi'
          have hlt3 := cell_lt g1
          have hrow : ∀ vs, Ext F H w H (setRow w3 g (j * 6) vs) := fun vs => Ext.setRow (g4.free g rfl) (fun _ => (g6 g rfl).1) vs _ _ (E4.out.mono (fun _ h => h.elim))
          have hmid : BindMid F H w s ⟨S.V.set j ⟨i.lv, true, t⟩, S.T⟩ (setRow w3 g (j * 6) [.int .i64 i.lv, .bool true, .int .i64 t.k, .string t.s, .int .i64 t.n, .slice a t.l.length cap]) := by
            refine ⟨hrow _, .slice (some ⟨g, 0, none⟩) S.V.length gc, _, (setRow_far (Ne.symm (g6 g rfl).2) _ _ _).trans g1, g2, g3, ?_, ?_, g6, g7⟩
            · exact g4.set rfl hj rfl ⟨_, rfl, HR.out, hlv⟩
            · exact g5.heap fun k hk => setRow_far (fun e => (g7 k hk).2.2 (by rw [e]; rfl)) _ _ _
          rw [setRow6] at hmid
          have HMID := Lib.hid (show BindMid F H w s _ (World.drew _) from ⟨hmid.1.drew, hmid.2.below hmid.1.agree (Below.refl _ _).drew⟩)
          have hbd2 : S.bind j t = (⟨S.V.set j ⟨i.lv, true, t⟩, S.T ++ [(j : Int)]⟩, 0) := by
            unfold St.bind
            rw [if_neg (by rw [hin, hbd'.out, hv'.out, hL'.out]; simp; omega), hin]
            simp
          have HB2 := Lib.hid hbd2
          clear hmid hrow hbd2
          go_upto_region 4 with fail
          go_cut [] from 31 (fun wx => BindMid F H w s ⟨S.V.set j ⟨i.lv, true, t⟩, S.T⟩ wx)
          case first =>
            go_still_tail 10, (by kernel_rfl)
            change wpList _ _ _ _ _ w3.drew
            go_wp2_with fail
            go_meet
            exact HMID.out
          case rest =>
            clear g1 g2 g3 g4 g5 g6 g7 hlt c0 c1 f0 f1 d0 d1 d2 d3 d4 d5 k0 k1 k2 k3 k4 k5 hgR hfz
            obtain ⟨hM, vi, vt, g1, g2, g3, g4, g5, g6, g7⟩ := hcut
            obtain ⟨ta', tc', rfl, htl, htm⟩ := g5.form
            obtain ⟨hlt, c0, c1, f0, f1⟩ := blk2 g1
            have BF := Lib.hid (fun w6 v1 o own hg hb => bind_fin (w6 := w6) (v1 := v1) (x := (j : Int)) hM g1 g2 g3 g4 g5 g6 g7 o own hg hb)
            have G1 := Lib.hid g1
            have G7 := Lib.hid g7
            have hA5 := hM.agree
            have hown := g5.below (below_alloc wc (.cells #[.int .i64 j] 3))
            clear g1 g2 g3 g4 g5 g6 g7 hM
            simp only [] at hown htl htm c1
            unfold I64 at hx
            go_wp2_with (at_builtin; go_loud (refine wpList_own1 rfl _ _ rfl isSl_ints (.slice ta' S.T.length tc') rfl wc.heap.size 1 rfl hown (hA5.alloc _) (by simp) _ (heap_alloc_new _ _) (j : Int) ⟨rfl, hx⟩ rfl (by simp; rfl) (by unfold maxLen; omega) (by omega) ?_; intro v1 w1 own1 hg1 hb1; have hbk : w1.heap[s]? = _ := (hg1.block s (by simp; omega) (fun e => (G7.out s e.symm).2.1 rfl)).trans (Below.blk (below_alloc _ _) G1.out); obtain ⟨z0, z1, z2, z3, z4⟩ := blk2 hbk; have FB := BF.out _ _ _ own1 hg1 hb1; obtain ⟨xa, xc, rfl, hxl, -⟩ := own1.form))
            go_ret
            unfold BindPost
            rw [HB2.out]
            have FB2 := FB
            rw [List.length_append] at FB2
            exact ⟨rfl, FB2⟩
end Go.Proofs.Ytbdappbmlnpogaa
