/- Package store in memory: Bind. Package store in memory: value. Package store in memory: step. Package store in memory: step, an abstraction that is applied. Package store in memory: step in one, head. Package store in memory: full. Package store in memory: run, Head. -/
import Derived.Test.YtbdappbmlnpogaaBP7
namespace Go.Proofs.Ytbdappbmlnpogaa
open Go Go.RowKit
set_option maxRecDepth 100000
/-- The numbers that Loose reckons with. -/
theorem looseQ_valid {t : Tm} (h : t.valid = true) (hs : t.size ≤ SB) : ∀ p ∈ t.leaves 0, LooseQ p.1 p.2 := by
  intro p hp
  obtain ⟨h1, h2, h3, h4, h5, h6⟩ := Tm.leaves_valid t 0 h p hp
  unfold SB at hs
  exact ⟨fun e => by have := Tm.bound_of_valid h1 e; unfold Tm.far at this; exact this, by omega, by omega⟩
def BindPost (F : Nat → Prop) (H : GH) (w : World) (s : Nat) (S : St) (x : Int) (t : Tm) (e : Ending) (w' : World) : Prop :=
  e = .returned (.int .i64 (S.bind x t).2) ∧ Ext F H w H w' ∧ StAt H w' (fun k => F k ∨ w.heap.size ≤ k) s (S.bind x t).1
theorem bind_no {F : Nat → Prop} {H : GH} {w w' : World} {s : Nat} {S : St} {x : Int} {t : Tm} (hS : StAt H w F s S) (hx : Pure H w H w') (hb : (S.info x).2 = false ∨ (S.info x).1.bd = true ∨ t.valid = false ∨ 0 < t.loose) : BindPost F H w s S x t (.returned (.int .i64 1)) w' := by
  have : S.bind x t = (S, 1) := by unfold St.bind; rw [if_pos hb]
  unfold BindPost
  rw [this]
  exact ⟨rfl, hx.mono (fun _ h => h.elim), (hS.pure hx).mono (fun _ h => .inl h)⟩
theorem setRow6 (w : World) (g o : Nat) (a b c d e f : Value) : setRow w g o [a, b, c, d, e, f] = (((((w.setCell ⟨g, o, none⟩ a).setCell ⟨g, o + 1, none⟩ b).setCell ⟨g, o + 2, none⟩ c).setCell ⟨g, o + 3, none⟩ d).setCell ⟨g, o + 4, none⟩ e).setCell ⟨g, o + 5, none⟩ f := rfl
/-- Behind the first store. -/
def BindMid (F : Nat → Prop) (H : GH) (w : World) (s : Nat) (S' : St) (wx : World) : Prop := Ext F H w H wx ∧ StAt H wx F s S'
/-- Behind the second. -/
theorem bind_fin {F : Nat → Prop} {H : GH} {w w5 w6 : World} {s : Nat} {V : List Inf} {T : List Int} {x : Int} {vi v1 : Value} {ta : Option Addr} {tc : Nat} (hM : Ext F H w H w5) (g1 : w5.heap[s]? = some (.cells #[vi, .slice ta T.length tc] 67 (0, 0))) (g2 : H s = none) (g3 : F s)
    (g4 : Own H w5 0 37 6 (RepI H) vi V) (g5 : Own H w5 0 3 1 IntP (.slice ta T.length tc) T) (g6 : ∀ g, vi.ownBlock = some g → F g ∧ g ≠ s) (g7 : ∀ g, (Value.slice ta T.length tc).ownBlock = some g → F g ∧ g ≠ s ∧ vi.ownBlock ≠ some g)
    (o : Obj) (own : Own H w6 0 3 1 IntP v1 (T ++ [x])) (hg : (w5.alloc o).grownBy w6 (Value.slice ta T.length tc).ownBlock) (hb : v1.ownBlock = (Value.slice ta T.length tc).ownBlock ∨ v1.ownBlock = some (w5.alloc o).heap.size) :
    Ext F H w H (w6.setCell ⟨s, 1, none⟩ v1) ∧ StAt H (w6.setCell ⟨s, 1, none⟩ v1) (fun k => F k ∨ w.heap.size ≤ k) s ⟨V, T ++ [x]⟩ := by
  have hlt := cell_lt g1
  have hbx := below_alloc w5 o
  have hb1 : w6.heap[s]? = some (.cells #[vi, .slice ta T.length tc] 67 (0, 0)) :=
    (hg.block s (by simp; omega) (fun e => (g7 s e.symm).2.1 rfl)).trans (Below.blk hbx g1)
  have E1 : Ext F H w H w6 := (hM.alloc o).grown hg g5.free (fun g hg _ => (g7 g hg).1)
  have hw := hM.size
  have hne : ∀ g, v1.ownBlock = some g → (F g ∨ w.heap.size ≤ g) ∧ g ≠ s ∧ vi.ownBlock ≠ some g := fun g hg => by
    rcases hb with e | e
    · rw [e] at hg; exact ⟨.inl (g7 g hg).1, (g7 g hg).2⟩
    · rw [e] at hg; injection hg with hg; subst hg
      refine ⟨.inr (by simp; omega), by simp; omega, fun e => ?_⟩
      have := (g4.lt _ e).2
      simp at this
      omega
  refine ⟨E1.setCell (p := ⟨s, 1, none⟩) g2 (fun _ => g3) v1, vi, v1, blk2_set1 hb1, g2, .inl g3, ?_, ?_, fun g hg => ⟨.inl (g6 g hg).1, (g6 g hg).2⟩, hne⟩
  · exact ((g4.below hbx).grown hg (fun g hg e => (g7 g e).2.2 hg)).grown (grown_set w6 s 1 v1) (fun g hg e => by injection e with e; exact (g6 g hg).2 e.symm)
  · exact own.grown (grown_set w6 s 1 v1) (fun g hg e => by injection e with e; exact (hne g hg).2.1 e.symm)
/-- A box of an Info. -/
theorem box6 {w : World} {b : Nat} {v0 v1 v2 v3 v4 v5 : Value} {T : TypeId} (h : w.heap[b]? = some (.cells #[v0, v1, v2, v3, v4, v5] T (0, 0))) :
    b < w.heap.size ∧ w.cell? ⟨b, 0, none⟩ = some v0 ∧ w.cell? ⟨b, 1, none⟩ = some v1 ∧ w.cell? ⟨b, 2, none⟩ = some v2 ∧ w.cell? ⟨b, 3, none⟩ = some v3 ∧ w.cell? ⟨b, 4, none⟩ = some v4 ∧ w.cell? ⟨b, 5, none⟩ = some v5 :=
  ⟨cell_lt h, (blk_cells h 0).1, (blk_cells h 1).1, (blk_cells h 2).1, (blk_cells h 3).1, (blk_cells h 4).1, (blk_cells h 5).1⟩
abbrev icells (i : Inf) (a : Option Addr) (cap : Nat) : Array Value := #[.int .i64 i.lv, .bool i.bd, .int .i64 i.vl.k, .string i.vl.s, .int .i64 i.vl.n, .slice a i.vl.l.length cap]
abbrev ibox (i : Inf) (a : Option Addr) (cap : Nat) : Obj := .cells (icells i a cap) 37 (0, 0)
set_option maxHeartbeats 4000000 in
theorem store_Bind {F : Nat → Prop} (H : GH) (w : World) (s : Nat) (S : St) (x : Int) (t : Tm) (cs : List Value) (hA : Agree H w) (hS : StAt H w F s S) (hR : Rep H t cs) (hx : I64 x) (hsz : t.size ≤ SB) (hn : S.T.length ≤ 1073741824) :
    Calls Try.prog 29 #[.pointer (some ⟨s, 0, none⟩), .int .i64 x, .agg cs.toArray] w (BindPost F H w s S x t) := by
  have h1 := Lib.hid (fun W hW => term_Valid t cs H W hR hW)
  have h2 := Lib.hid (fun W hW hv => term_Loose t cs H W (looseQ_valid hv hsz) (by unfold SB at hsz; unfold LB; omega) hW hR)
  have HR := Lib.hid hR
  obtain ⟨a, cap, rfl, -, -, -, -⟩ := hR.open_
  have E0 := Lib.hid ((Ext.refl (O := fun _ => False) hA).alloc (tbox t a cap))
  have B0 := Lib.hid (heap_alloc_new w (tbox t a cap))
  have hinf := Lib.hid (store_Info H _ s S x (hS.pure E0.out))
  have HS := Lib.hid hS
  have NO := Lib.hid (fun w' hx => bind_no (w' := w') (x := x) (t := t) hS hx)
  have HLT := Lib.hid hS.lt
  generalize hI : S.info x = I at *
  obtain ⟨i, ok⟩ := I
  have hI' := Lib.hid hI
  clear hI hR
  go_enter Try.func29, Try.ntmps29
  go_wp2_with fail
  refine hinf.out.mono ?_
  rintro e w1 ⟨ics, rfl, hb1, hRI⟩
  have E1 := Lib.hid (E0.out.then_below hb1)
  have HRI := Lib.hid hRI
  obtain ⟨tcs, rfl, hR1, hlv⟩ := hRI
  obtain ⟨ia, ic, rfl, -, -, -, -⟩ := hR1.open_
  have B1 := Lib.hid (Below.blk (below_alloc w1 (.cells #[.int .i64 i.lv, .bool i.bd, .int .i64 i.vl.k, .string i.vl.s, .int .i64 i.vl.n, .slice ia i.vl.l.length ic] 37 (0, 0))) (Below.blk hb1 B0.out))
  have B2 := Lib.hid (heap_alloc_new w1 (.cells #[.int .i64 i.lv, .bool i.bd, .int .i64 i.vl.k, .string i.vl.s, .int .i64 i.vl.n, .slice ia i.vl.l.length ic] 37 (0, 0)))
  have E2 := Lib.hid (E1.out.alloc (.cells #[.int .i64 i.lv, .bool i.bd, .int .i64 i.vl.k, .string i.vl.s, .int .i64 i.vl.n, .slice ia i.vl.l.length ic] 37 (0, 0)))
  clear hinf
  cases ok with
  | false =>
    go_wp2_with fail
    go_ret
    exact NO.out _ E2.out (by simp)
  | true =>
    cases hbd : i.bd with
    | true =>
      have hbd' := Lib.hid hbd
      rw [hbd] at E2
      go_wp2_with fail
      go_ret
      exact NO.out _ E2.out (by simp [hbd'.out])
    | false =>
      have hbd' := Lib.hid hbd
      rw [hbd] at E2 B1 B2
      obtain ⟨p0, p1, p2, p3, p4, p5, p6, p7, p8⟩ := box4 B1.out
      cases hv : t.valid with
      | false =>
        have hv' := Lib.hid hv
        have h1' := h1
        rw [hv] at h1'
        clear hv h1 h2 hbd
        go_wp2_with fail
        refine (h1'.out _ E2.out.agree).mono ?_
        rintro e w2 ⟨rfl, hb2⟩
        have E3 := Lib.hid (E2.out.then_below hb2)
        go_wp2_with fail
        go_ret
        exact NO.out _ E3.out (by simp [hv'.out])
      | true =>
        have hv' := Lib.hid hv
        have h2' := Lib.hid (fun W hW => h2.out W hW hv)
        have h1' := h1
        rw [hv] at h1'
        clear hv h1 h2 hbd
        go_wp2_with fail
        refine (h1'.out _ E2.out.agree).mono ?_
        rintro e w2 ⟨rfl, hb2⟩
        have E3 := Lib.hid (E2.out.then_below hb2)
        have B3 := Lib.hid (Below.blk hb2 B1.out)
        have B4 := Lib.hid (Below.blk hb2 B2.out)
        obtain ⟨q0, q1, q2, q3, q4, q5, q6, q7, q8⟩ := box4 B3.out
        clear p0 p1 p2 p3 p4 p5 p6 p7 p8
        go_wp2_with fail
        refine (h2'.out _ E3.out.agree).mono ?_
        rintro e w3 ⟨rfl, hb3⟩
        have E4 := Lib.hid (E3.out.then_below hb3)
        clear q0 q1 q2 q3 q4 q5 q6 q7 q8
        have B5 := Lib.hid (Below.blk hb3 B3.out)
        have B6 := Lib.hid (Below.blk hb3 B4.out)
        obtain ⟨q0, q1, q2, q3, q4, q5, q6, q7, q8⟩ := box4 B5.out
        obtain ⟨r0, r1, r2, r3, r4, r5, r6⟩ := box6 B6.out
        generalize hL : t.loose = L at *
        have hL' := Lib.hid hL
        clear hL
        by_cases hl : 0 < L
        · go_wp2_with fail
          go_ret
          exact NO.out _ E4.out (by simp [hl])
        · obtain ⟨vi, vt, g1, g2, g3, g4, g5, g6, g7⟩ := HS.out.pure E4.out
          obtain ⟨hlt, c0, c1, f0, f1⟩ := blk2 g1
          have hin : S.info x = (i, true) := hI'.out
          obtain ⟨j, rfl⟩ : ∃ j : Nat, x = j := by
            unfold St.info at hin
            split at hin
            · simp at hin
            · exact ⟨x.toNat, by omega⟩
          have hj : j < S.V.length := by
            unfold St.info at hin
            split at hin
            · simp at hin
            · omega
          obtain ⟨i', hi'⟩ : ∃ i', S.V[j]? = some i' := ⟨_, List.getElem?_eq_getElem hj⟩
          obtain ⟨g, gc, gcs, rfl, -, hP, hcell, hfz, hgl, hgm, hgw⟩ := g4.get (fun _ _ h => h.len) hi'
          obtain ⟨ta, tc, rfl, htl, htm⟩ := g5.form
          have hjI : (j : Int) < (S.V.length : Int) := by omega
          have k0 := hfz (j * 6)
          have k1 := hfz (j * 6 + 1)
          have k2 := hfz (j * 6 + 2)
          have k3 := hfz (j * 6 + 3)
          have k4 := hfz (j * 6 + 4)
          have k5 := hfz (j * 6 + 5)
          have HGL := Lib.hid hgl
          obtain ⟨gts, rfl, hgR, -⟩ := hP
          obtain ⟨ga, gp, rfl, -, -, -, -⟩ := hgR.open_
          have d0 := hcell 0 _ rfl
          have d1 := hcell 1 _ rfl
          have d2 := hcell 2 _ rfl
          have d3 := hcell 3 _ rfl
          have d4 := hcell 4 _ rfl
          have d5 := hcell 5 _ rfl
          simp only [Nat.add_zero] at d0
          clear hcell hi'
          have hlt3 := cell_lt g1
          have hrow : ∀ vs, Ext F H w H (setRow w3 g (j * 6) vs) := fun vs => Ext.setRow (g4.free g rfl) (fun _ => (g6 g rfl).1) vs _ _ (E4.out.mono (fun _ h => h.elim))
          have hmid : BindMid F H w s ⟨S.V.set j ⟨i.lv, true, t⟩, S.T⟩ (setRow w3 g (j * 6) [.int .i64 i.lv, .bool true, .int .i64 t.k, .string t.s, .int .i64 t.n, .slice a t.l.length cap]) := by
            refine ⟨hrow _, .slice (some ⟨g, 0, none⟩) S.V.length gc, _, (setRow_far (Ne.symm (g6 g rfl).2) _ _ _).trans g1, g2, g3, ?_, ?_, g6, g7⟩
            · exact g4.set rfl hj rfl ⟨_, rfl, HR.out, hlv⟩
            · exact g5.heap fun k hk => setRow_far (fun e => (g7 k hk).2.2 (by rw [e]; rfl)) _ _ _
          rw [setRow6] at hmid
          have HMID := Lib.hid (show BindMid F H w s _ (World.drew _) from ⟨hmid.1.drew, hmid.2.below hmid.1.agree (Below.refl _ _).drew⟩)
          have hbd2 : S.bind j t = (⟨S.V.set j ⟨i.lv, true, t⟩, S.T ++ [(j : Int)]⟩, 0) := by
            unfold St.bind
            rw [if_neg (by rw [hin, hbd'.out, hv'.out, hL'.out]; simp; omega), hin]
            simp
          have HB2 := Lib.hid hbd2
          clear hmid hrow hbd2
          go_upto_region 4 with fail
          go_cut [] from 31 (fun wx => BindMid F H w s ⟨S.V.set j ⟨i.lv, true, t⟩, S.T⟩ wx)
          case first =>
            go_still_tail 10, (by kernel_rfl)
            change wpList _ _ _ _ _ w3.drew
            go_wp2_with fail
            go_meet
            exact HMID.out
          case rest =>
            clear g1 g2 g3 g4 g5 g6 g7 hlt c0 c1 f0 f1 d0 d1 d2 d3 d4 d5 k0 k1 k2 k3 k4 k5 hgR hfz
            obtain ⟨hM, vi, vt, g1, g2, g3, g4, g5, g6, g7⟩ := hcut
            obtain ⟨ta', tc', rfl, htl, htm⟩ := g5.form
            obtain ⟨hlt, c0, c1, f0, f1⟩ := blk2 g1
            have BF := Lib.hid (fun w6 v1 o own hg hb => bind_fin (w6 := w6) (v1 := v1) (x := (j : Int)) hM g1 g2 g3 g4 g5 g6 g7 o own hg hb)
            have G1 := Lib.hid g1
            have G7 := Lib.hid g7
            have hA5 := hM.agree
            have hown := g5.below (below_alloc wc (.cells #[.int .i64 j] 3))
            clear g1 g2 g3 g4 g5 g6 g7 hM
            simp only [] at hown htl htm c1
            unfold I64 at hx
            go_wp2_with (at_builtin; go_loud (refine wpList_own1 rfl _ _ rfl isSl_ints (.slice ta' S.T.length tc') rfl wc.heap.size 1 rfl hown (hA5.alloc _) (by simp) _ (heap_alloc_new _ _) (j : Int) ⟨rfl, hx⟩ rfl (by simp; rfl) (by unfold maxLen; omega) (by omega) ?_; intro v1 w1 own1 hg1 hb1; have hbk : w1.heap[s]? = _ := (hg1.block s (by simp; omega) (fun e => (G7.out s e.symm).2.1 rfl)).trans (Below.blk (below_alloc _ _) G1.out); obtain ⟨z0, z1, z2, z3, z4⟩ := blk2 hbk; have FB := BF.out _ _ _ own1 hg1 hb1; obtain ⟨xa, xc, rfl, hxl, -⟩ := own1.form))
            go_ret
            unfold BindPost
            rw [HB2.out]
            have FB2 := FB
            rw [List.length_append] at FB2
            exact ⟨rfl, FB2⟩
end Go.Proofs.Ytbdappbmlnpogaa
namespace Go.Proofs.Ytbdappbmlnpogaa
open Go Go.RowKit
set_option maxRecDepth 100000
def ValuePost (H : GH) (w : World) (S : St) (t : Tm) (e : Ending) (w' : World) : Prop := ∃ cs', e = .returned (.tuple #[.agg cs'.toArray, .bool (S.value t).2]) ∧ Pure H w H w' ∧ Rep H (S.value t).1 cs'
set_option maxHeartbeats 4000000 in
theorem store_value {F : Nat → Prop} (H : GH) (w : World) (s : Nat) (S : St) (t : Tm) (cs : List Value) (hA : Agree H w) (hS : StAt H w F s S) (hR : Rep H t cs) :
    Calls Try.prog 87 #[.pointer (some ⟨s, 0, none⟩), .agg cs.toArray] w (ValuePost H w S t) := by
  obtain ⟨a, cap, rfl, -, -, -, -⟩ := hR.open_
  obtain ⟨E0, B0, B1, hn⟩ := enter1 t a cap H w hA
  have E0 := Lib.hid E0
  have B0 := Lib.hid B0
  have B1 := Lib.hid B1
  have hn := Lib.hid hn
  have hinf := Lib.hid (store_Info H _ s S t.n (hS.pure E0.out))
  have hval := Lib.hid (show S.value t = ((S.info t.n).1.vl, (t.k == 4) && (S.info t.n).2 && (S.info t.n).1.bd) from rfl)
  generalize hI : S.info t.n = I at *
  obtain ⟨i, ok⟩ := I
  clear hI hR
  dsimp only at hval hinf
  go_enter Try.func87, Try.ntmps87
  go_wp2_with fail
  refine hinf.out.mono ?_
  rintro e w1 ⟨ics, rfl, hb1, hRI⟩
  have E1 := Lib.hid (E0.out.then_below hb1)
  obtain ⟨tcs, rfl, hR1, hlv⟩ := hRI
  have HR1 := Lib.hid hR1
  obtain ⟨ia, ic, rfl, -, -, -, -⟩ := hR1.open_
  have B2 := Lib.hid (Below.blk hb1 B0.out)
  have B3 := Lib.hid (Below.blk hb1 B1.out)
  obtain ⟨p0, p1, p2, p3, p4, p5, p6, p7, p8⟩ := box4 B2.out
  obtain ⟨q0, q1, q2, q3, q4, q5, q6, q7, q8⟩ := box4 B3.out
  clear hinf
  have hz : w.heap.size + 1 < w1.heap.size := q0
  have E2 := Lib.hid (((E1.out.store4 hn.out (by omega) (.int .i64 i.vl.k) (.string i.vl.s) (.int .i64 i.vl.n) (.slice ia i.vl.l.length ic)).alloc (ibox i ia ic)).drew)
  have fin : ∀ w', Pure H w H w' → ∀ b, ((t.k == 4) && ok && i.bd) = b → ValuePost H w S t (.returned (.tuple #[.agg #[.int .i64 i.vl.k, .string i.vl.s, .int .i64 i.vl.n, .slice ia i.vl.l.length ic], .bool b])) w' := by
    intro w' hp b hb
    unfold ValuePost
    rw [hval.out, hb]
    exact ⟨_, rfl, hp, HR1.out⟩
  have FIN := Lib.hid fin
  clear fin
  cases hk : (t.k == 4) with
  | false =>
    have hk' := Lib.hid hk
    go_wp2_with fail
    go_region
    go_wp2_with fail
    exact bodyPost_ret (v := .tuple #[.agg #[.int .i64 i.vl.k, .string i.vl.s, .int .i64 i.vl.n, .slice ia i.vl.l.length ic], .bool false]) (by simp [results, Try.results87, go_sem, q0, q1, q2, q3, q4]) rfl (FIN.out _ E2.out _ (by simp [hk'.out]))
  | true =>
    have hk' := Lib.hid hk
    cases ok with
    | false =>
      go_wp2_with fail
      go_region
      go_wp2_with fail
      exact bodyPost_ret (v := .tuple #[.agg #[.int .i64 i.vl.k, .string i.vl.s, .int .i64 i.vl.n, .slice ia i.vl.l.length ic], .bool false]) (by simp [results, Try.results87, go_sem, q0, q1, q2, q3, q4]) rfl (FIN.out _ E2.out _ (by simp [hk'.out]))
    | true =>
      go_wp2_with fail
      go_region
      go_wp2_with fail
      exact bodyPost_ret (v := .tuple #[.agg #[.int .i64 i.vl.k, .string i.vl.s, .int .i64 i.vl.n, .slice ia i.vl.l.length ic], .bool i.bd]) (by simp [results, Try.results87, go_sem, q0, q1, q2, q3, q4]) rfl (FIN.out _ E2.out _ (by simp [hk'.out]))
end Go.Proofs.Ytbdappbmlnpogaa
namespace Go.Proofs.Ytbdappbmlnpogaa
open Go Go.RowKit
set_option maxRecDepth 100000
def StepPost (H : GH) (w : World) (S : St) (t : Tm) (e : Ending) (w' : World) : Prop := ∃ H' cs', e = .returned (.tuple #[.agg cs'.toArray, .bool (S.step t).2.1, .int .i64 (S.step t).2.2]) ∧ Pure H w H' w' ∧ Rep H' (S.step t).1 cs'
theorem step_to {H H' : GH} {w w' : World} {S : St} {t r : Tm} {b : Bool} {n : Int} {cs' : List Value} (hs : S.step t = (r, b, n)) (hp : Pure H w H' w') (hr : Rep H' r cs') : StepPost H w S t (.returned (.tuple #[.agg cs'.toArray, .bool b, .int .i64 n])) w' := by
  unfold StepPost
  rw [hs]
  exact ⟨H', cs', rfl, hp, hr⟩
set_option maxHeartbeats 4000000 in
/-- The term itself stands for something. -/
theorem step_val {F : Nat → Prop} (H : GH) (w : World) (s : Nat) (S : St) (t : Tm) (cs : List Value) (hA : Agree H w) (hS : StAt H w F s S) (hR : Rep H t cs) (hv : (S.value t).2 = true) :
    Calls Try.prog 79 #[.pointer (some ⟨s, 0, none⟩), .agg cs.toArray] w (StepPost H w S t) := by
  have hst := Lib.hid (show S.step t = ((S.value t).1, true, 0) by unfold St.step; rw [if_pos hv])
  have hval := Lib.hid (fun W hW (hSt : StAt H W F s S) => store_value H W s S t cs hW hSt hR)
  obtain ⟨a, cap, rfl, -, -, -, -⟩ := hR.open_
  obtain ⟨E0, B0, B1, hn⟩ := enter1 t a cap H w hA
  have S0 := Lib.hid (hS.pure E0)
  have E0 := Lib.hid E0
  have B1 := Lib.hid B1
  have hn := Lib.hid hn
  have HV := Lib.hid hv
  clear hR hS hv B0
  go_enter Try.func79, Try.ntmps79
  go_wp2_with fail
  refine (hval.out _ E0.out.agree S0.out).mono ?_
  unfold ValuePost
  rw [HV.out]
  rintro e w1 ⟨vcs, rfl, X1, R1⟩
  have E1 := Lib.hid (E0.out.then X1)
  have HR1 := Lib.hid R1
  generalize (S.value t).1 = Y at *
  obtain ⟨ya, yc, rfl, -, -, -, -⟩ := R1.open_
  obtain ⟨q0, q1, q2, q3, q4, q5, q6, q7, q8⟩ := box4 (Below.blk X1.below B1.out)
  have E2 := Lib.hid ((E1.out.store4 hn.out (by omega) (.int .i64 Y.k) (.string Y.s) (.int .i64 Y.n) (.slice ya Y.l.length yc)).alloc (tbox Y ya yc))
  clear hval X1
  go_wp2_with fail
  exact bodyPost_ret (v := .tuple #[.agg #[.int .i64 Y.k, .string Y.s, .int .i64 Y.n, .slice ya Y.l.length yc], .bool true, .int .i64 0]) (by simp [results, Try.results79, go_sem, q0, q1, q2, q3, q4]) rfl (step_to hst.out E2.out HR1.out)
set_option maxHeartbeats 4000000 in
/-- It does not, and is not applied. -/
theorem step_leaf {F : Nat → Prop} (H : GH) (w : World) (s : Nat) (S : St) (t : Tm) (cs : List Value) (hA : Agree H w) (hS : StAt H w F s S) (hR : Rep H t cs) (hv : (S.value t).2 = false) (h6 : t.k ≠ 6) :
    Calls Try.prog 79 #[.pointer (some ⟨s, 0, none⟩), .agg cs.toArray] w (StepPost H w S t) := by
  have hst := Lib.hid (show S.step t = (t, false, 0) by unfold St.step; rw [if_neg (by rw [hv]; simp), if_pos h6])
  have hval := Lib.hid (fun W hW (hSt : StAt H W F s S) => store_value H W s S t cs hW hSt hR)
  have HR := Lib.hid hR
  obtain ⟨a, cap, rfl, -, -, -, -⟩ := hR.open_
  obtain ⟨E0, B0, B1, hn⟩ := enter1 t a cap H w hA
  have S0 := Lib.hid (hS.pure E0)
  have E0 := Lib.hid E0
  have B0 := Lib.hid B0
  have B1 := Lib.hid B1
  have hn := Lib.hid hn
  have HV := Lib.hid hv
  have h6' : (t.k != 6) = true := by rw [bne_iff_ne]; exact h6
  clear hR hS hv h6
  go_enter Try.func79, Try.ntmps79
  go_wp2_with fail
  refine (hval.out _ E0.out.agree S0.out).mono ?_
  unfold ValuePost
  rw [HV.out]
  rintro e w1 ⟨vcs, rfl, X1, R1⟩
  have E1 := Lib.hid (E0.out.then X1)
  generalize (S.value t).1 = Y at *
  obtain ⟨ya, yc, rfl, -, -, -, -⟩ := R1.open_
  obtain ⟨p0, p1, p2, p3, p4, p5, p6, p7, p8⟩ := box4 (Below.blk X1.below B0.out)
  obtain ⟨q0, q1, q2, q3, q4, q5, q6, q7, q8⟩ := box4 (Below.blk X1.below B1.out)
  have E2 := Lib.hid ((E1.out.store4 hn.out (by omega) (.int .i64 t.k) (.string t.s) (.int .i64 t.n) (.slice a t.l.length cap)).alloc (tbox Y ya yc))
  clear hval X1
  go_wp2_with fail
  exact bodyPost_ret (v := .tuple #[.agg #[.int .i64 t.k, .string t.s, .int .i64 t.n, .slice a t.l.length cap], .bool false, .int .i64 0]) (by simp [results, Try.results79, go_sem, q0, q1, q2, q3, q4]) rfl (step_to hst.out E2.out HR.out)
/-- What an application's list gives. -/
theorem step_prep {S : St} {t : Tm} (hv : t.valid = true) (h6 : t.k = 6) : ∃ y, t.l[0]? = some y ∧ t.l.getD 0 Tm.zero = y ∧ y.valid = true ∧ 2 ≤ t.l.length ∧ y.size < t.size ∧ t.l.length < t.size ∧ Tm.sizeL t.l < t.size := by
  cases t with
  | mk k s n l =>
    simp only [Tm.k_mk, Tm.l_mk] at h6 ⊢
    subst h6
    obtain ⟨g1, g2⟩ := (Tm.valid_iff ..).1 hv
    obtain ⟨-, -, h2, -⟩ := Tm.ok1_app.1 g1
    cases l with
    | nil => simp at h2
    | cons x xs =>
      refine ⟨x, rfl, rfl, g2 x (by simp), h2, ?_, Tm.length_lt 6 s n _, ?_⟩
      · exact Tm.size_lt (by simp)
      · rw [Tm.size_mk]; omega
set_option maxHeartbeats 8000000 in
/-- What is applied stands for something. -/
theorem step_appval {F : Nat → Prop} (H : GH) (w : World) (s : Nat) (S : St) (M : Nat) (B : Int) (t : Tm) (cs : List Value) (hA : Agree H w) (hS : StAt H w F s S) (hR : Rep H t cs) (hv : (S.value t).2 = false) (h6 : t.k = 6) (hval : t.valid = true) (hok : S.Ok M B) (hsz : t.size + M ≤ SB)
    (y : Tm) (hy : t.l[0]? = some y) (hv2' : (S.value y).2 = true) :
    Calls Try.prog 79 #[.pointer (some ⟨s, 0, none⟩), .agg cs.toArray] w (StepPost H w S t) := by
  obtain ⟨y', hy', hgy, hyv, hl2, hys, hll, hsl⟩ := step_prep (S := S) hval h6
  rw [hy] at hy'
  injection hy' with hy'
  subst hy'
  unfold SB at hsz
  have hvf := St.value_fit hok hv2'
  have hst := Lib.hid (show S.step t = (Tm.apply (S.value y).1 (t.l.drop 1), true, 0) by
    unfold St.step
    rw [if_neg (by rw [hv]; simp), if_neg (by simp [h6]), hgy, if_pos hv2'])
  have hd6 := Lib.hid (Tm.shp_hd6 (Tm.shp_of_valid _ hvf.v))
  have hlb : ((S.value y).1.apply (t.l.drop 1)).l.length ≤ LB := by
    have h1 := (Tm.apply_size (S.value y).1 (t.l.drop 1)).1
    have h2 := hvf.s
    have h3 := Tm.sizeL_drop_le t.l 1
    have h4 : ((S.value y).1.apply (t.l.drop 1)).l.length < ((S.value y).1.apply (t.l.drop 1)).size := by cases (S.value y).1.apply (t.l.drop 1) with | mk k s n l => exact Tm.length_lt k s n l
    unfold LB; omega
  have HLB := Lib.hid hlb
  have HV2 := Lib.hid hv2'
  clear hlb hvf hv2'
  have hv1 := Lib.hid (fun W hW (hSt : StAt H W F s S) => store_value H W s S t cs hW hSt hR)
  have HR := Lib.hid hR
  obtain ⟨a, cap, rfl, -, -, -, hT⟩ := hR.open_
  obtain ⟨-, hlc, hcm⟩ := hT.len
  unfold maxLen at hcm
  have HT := Lib.hid hT
  obtain ⟨b, o, ycs, rfl, -, hRy, hcy⟩ := hT.get hy
  have HRY := Lib.hid hRy
  have hv2 := Lib.hid (fun W hW (hSt : StAt H W F s S) => store_value H W s S y ycs hW hSt hRy)
  obtain ⟨ea, ec, rfl, -, -, -, -⟩ := hRy.open_
  have HY0 := Lib.hid (hcy 0 _ rfl)
  have HY1 := Lib.hid (hcy 1 _ rfl)
  have HY2 := Lib.hid (hcy 2 _ rfl)
  have HY3 := Lib.hid (hcy 3 _ rfl)
  simp only [Nat.add_zero, Nat.zero_mul] at HY0 HY1 HY2 HY3
  obtain ⟨E0, B0, B1, hn⟩ := enter1 t (some ⟨b, o, none⟩) cap H w hA
  have S0 := Lib.hid (hS.pure E0)
  have E0 := Lib.hid E0
  have B0 := Lib.hid B0
  have B1 := Lib.hid B1
  have hn := Lib.hid hn
  have HV := Lib.hid hv
  have h6' : (t.k != 6) = false := by rw [bne_eq_false_iff_eq]; exact h6
  have e4 : (0 : Int) < (t.l.length : Int) := by omega
  have e5 : 1 ≤ t.l.length := by omega
  have e6 : 0 < t.l.length := by omega
  have HL2 := Lib.hid hl2
  have HLC := Lib.hid hlc
  have HLL := Lib.hid (show t.l.length ≤ 1073741824 by omega)
  clear hR hS hv h6 hT hRy hcy hy hval hok hsz hys hsl hll hgy hl2
  go_enter Try.func79, Try.ntmps79
  go_wp2_with fail
  refine (hv1.out _ E0.out.agree S0.out).mono ?_
  unfold ValuePost
  rw [HV.out]
  rintro e w1 ⟨vcs, rfl, X1, R1⟩
  generalize (S.value t).1 = Y at *
  obtain ⟨ya, yc, rfl, -, -, -, -⟩ := R1.open_
  have E1 := Lib.hid ((E0.out.then X1).alloc (tbox Y ya yc))
  have S1 := Lib.hid ((S0.out.pure X1).below (X1.agree) (below_alloc w1 (tbox Y ya yc)))
  have B2 := Lib.hid (Below.blk X1.below B0.out)
  have B3 := Lib.hid (Below.blk X1.below B1.out)
  obtain ⟨p0, p1, p2, p3, p4, p5, p6, p7, p8⟩ := box4 B2.out
  have c0 := X1.agree.cell HY0.out
  have c1 := X1.agree.cell HY1.out
  have c2 := X1.agree.cell HY2.out
  have c3 := X1.agree.cell HY3.out
  have hbl : b < w1.heap.size := World.block_lt_of_cell? w1 _ c0
  clear hv1
  go_wp2_with fail
  refine (hv2.out _ E1.out.agree S1.out).mono ?_
  unfold ValuePost
  rw [HV2.out]
  generalize hV : (S.value y).1 = V at *
  rintro e w2 ⟨ucs, rfl, X2, R2⟩
  have HRV := Lib.hid R2
  obtain ⟨va, vc, rfl, -, -, -, -⟩ := R2.open_
  have E2 := Lib.hid ((E1.out.then X2).alloc (tbox V va vc))
  have B4 := Lib.hid (Below.blk (below_alloc w2 (tbox V va vc)) (Below.blk X2.below (Below.blk (below_alloc w1 (tbox Y ya yc)) B2.out)))
  have B5 := Lib.hid (Below.blk (below_alloc w2 (tbox V va vc)) (Below.blk X2.below (Below.blk (below_alloc w1 (tbox Y ya yc)) B3.out)))
  have B6 := Lib.hid (heap_alloc_new w2 (tbox V va vc))
  have B4' := Lib.hid (Below.blk X2.below (Below.blk (below_alloc w1 (tbox Y ya yc)) B2.out))
  have B5' := Lib.hid (Below.blk X2.below (Below.blk (below_alloc w1 (tbox Y ya yc)) B3.out))
  have hA2 := Lib.hid X2.agree
  clear p0 p1 p2 p3 p4 p5 p6 p7 p8 c0 c1 c2 c3 hbl hv2 X1 X2 R1
  have hTd := HT.out.drop 1 (by have := HL2.out; omega)
  simp only [Nat.one_mul] at hTd
  have hap := Lib.hid (fun W hW => term_Apply V _ (t.l.drop 1) _ H W HRV.out hTd hW hd6.out HLB.out)
  generalize hZ : V.apply (t.l.drop 1) = Z at *
  have K : S5 w.heap.size (.slice (some ⟨b, o, none⟩) t.l.length cap) w2.heap.size 0 (.int .i64 V.k) (.string V.s) (.int .i64 V.n) (.slice va V.l.length vc) (w2.alloc (tbox V va vc)) :=
    ⟨(blk_cells B4.out 3).1, (blk_cells B6.out 0).1, (blk_cells B6.out 1).1, (blk_cells B6.out 2).1, (blk_cells B6.out 3).1⟩
  have K0 := K.drew
  have hz2 : w.heap.size + 1 < w2.heap.size := cell_lt B5'.out
  have N1 : w.heap.size ≠ w.heap.size + 1 := by omega
  have N2 : w2.heap.size ≠ w.heap.size + 1 := by omega
  have e1 : (1 : Int) ≤ (cap : Int) := by have := HL2.out; omega
  have e2 : ¬ (cap = 1) := by have := HL2.out; omega
  have e3 : (1 : Int) ≤ (t.l.length : Int) := by omega
  have AG := Lib.hid E2.out.agree.drew
  have hzN := Lib.hid hz2
  go_wp2_with fail
  go_region_held3 (fun w' => w'.cell? ⟨w.heap.size, 3, none⟩ = some (.slice (some ⟨b, o, none⟩) t.l.length cap) ∧ w'.cell? ⟨w2.heap.size, 0, none⟩ = some (.int .i64 V.k) ∧ w'.cell? ⟨w2.heap.size, 0 + 1, none⟩ = some (.string V.s) ∧ w'.cell? ⟨w2.heap.size, 0 + 2, none⟩ = some (.int .i64 V.n) ∧ w'.cell? ⟨w2.heap.size, 0 + 3, none⟩ = some (.slice va V.l.length vc)) (with_reducible (first | exact K0 | exact KJ | exact KJ.far N1 N2 _ _ _ _)) (first | (go_at_call 14; ((with_reducible refine (hap.out _ AG.out).mono ?_); rintro e w3 ⟨H3, zcs, rfl, X3, R3⟩; have KJ := K0.below X3.below; have HR3 := Lib.hid R3; obtain ⟨za, zc, rfl, -, -, -, -⟩ := R3.open_; obtain ⟨q0, q1, q2, q3, q4, q5, q6, q7, q8⟩ := box4 (Below.blk X3.below (Below.blk (Below.refl _ _).drew B5.out)))))
  have hn3 : H3 (w.heap.size + 1) = none := (X3.old _ (by have := hzN.out; simp; omega)).trans hn.out
  have E3 := Lib.hid ((E2.out.drew.then X3).store4 hn3 (by omega) (.int .i64 Z.k) (.string Z.s) (.int .i64 Z.n) (.slice za Z.l.length zc))
  go_wp2_with fail
  exact bodyPost_ret (v := .tuple #[.agg #[.int .i64 Z.k, .string Z.s, .int .i64 Z.n, .slice za Z.l.length zc], .bool true, .int .i64 0]) (by simp [results, Try.results79, go_sem, q0, q1, q2, q3, q4]) rfl (step_to hst.out E3.out HR3.out)
set_option maxHeartbeats 8000000 in
/-- What is applied is neither, nor an abstraction. -/
theorem step_appleaf {F : Nat → Prop} (H : GH) (w : World) (s : Nat) (S : St) (M : Nat) (B : Int) (t : Tm) (cs : List Value) (hA : Agree H w) (hS : StAt H w F s S) (hR : Rep H t cs) (hv : (S.value t).2 = false) (h6 : t.k = 6) (hval : t.valid = true) (hok : S.Ok M B) (hsz : t.size + M ≤ SB)
    (y : Tm) (hy : t.l[0]? = some y) (hv2' : (S.value y).2 = false) (h5 : y.k ≠ 5) :
    Calls Try.prog 79 #[.pointer (some ⟨s, 0, none⟩), .agg cs.toArray] w (StepPost H w S t) := by
  obtain ⟨y', hy', hgy, hyv, hl2, hys, hll, hsl⟩ := step_prep (S := S) hval h6
  rw [hy] at hy'
  injection hy' with hy'
  subst hy'
  unfold SB at hsz
  have hst := Lib.hid (show S.step t = (t, false, 0) by
    unfold St.step
    rw [if_neg (by rw [hv]; simp), if_neg (by simp [h6]), hgy, if_neg (by rw [hv2']; simp), if_pos h5])
  have HV2 := Lib.hid hv2'
  have h5' : (y.k != 5) = true := by rw [bne_iff_ne]; exact h5
  clear hv2' h5
  have hv1 := Lib.hid (fun W hW (hSt : StAt H W F s S) => store_value H W s S t cs hW hSt hR)
  have HR := Lib.hid hR
  obtain ⟨a, cap, rfl, -, -, -, hT⟩ := hR.open_
  obtain ⟨-, hlc, hcm⟩ := hT.len
  unfold maxLen at hcm
  have HT := Lib.hid hT
  obtain ⟨b, o, ycs, rfl, -, hRy, hcy⟩ := hT.get hy
  have HRY := Lib.hid hRy
  have hv2 := Lib.hid (fun W hW (hSt : StAt H W F s S) => store_value H W s S y ycs hW hSt hRy)
  obtain ⟨ea, ec, rfl, -, -, -, -⟩ := hRy.open_
  have HY0 := Lib.hid (hcy 0 _ rfl)
  have HY1 := Lib.hid (hcy 1 _ rfl)
  have HY2 := Lib.hid (hcy 2 _ rfl)
  have HY3 := Lib.hid (hcy 3 _ rfl)
  simp only [Nat.add_zero, Nat.zero_mul] at HY0 HY1 HY2 HY3
  obtain ⟨E0, B0, B1, hn⟩ := enter1 t (some ⟨b, o, none⟩) cap H w hA
  have S0 := Lib.hid (hS.pure E0)
  have E0 := Lib.hid E0
  have B0 := Lib.hid B0
  have B1 := Lib.hid B1
  have hn := Lib.hid hn
  have HV := Lib.hid hv
  have h6' : (t.k != 6) = false := by rw [bne_eq_false_iff_eq]; exact h6
  have e4 : (0 : Int) < (t.l.length : Int) := by omega
  have e5 : 1 ≤ t.l.length := by omega
  have e6 : 0 < t.l.length := by omega
  have HL2 := Lib.hid hl2
  have HLC := Lib.hid hlc
  have HLL := Lib.hid (show t.l.length ≤ 1073741824 by omega)
  clear hR hS hv h6 hT hRy hcy hy hval hok hsz hys hsl hll hgy hl2
  go_enter Try.func79, Try.ntmps79
  go_wp2_with fail
  refine (hv1.out _ E0.out.agree S0.out).mono ?_
  unfold ValuePost
  rw [HV.out]
  rintro e w1 ⟨vcs, rfl, X1, R1⟩
  generalize (S.value t).1 = Y at *
  obtain ⟨ya, yc, rfl, -, -, -, -⟩ := R1.open_
  have E1 := Lib.hid ((E0.out.then X1).alloc (tbox Y ya yc))
  have S1 := Lib.hid ((S0.out.pure X1).below (X1.agree) (below_alloc w1 (tbox Y ya yc)))
  have B2 := Lib.hid (Below.blk X1.below B0.out)
  have B3 := Lib.hid (Below.blk X1.below B1.out)
  obtain ⟨p0, p1, p2, p3, p4, p5, p6, p7, p8⟩ := box4 B2.out
  have c0 := X1.agree.cell HY0.out
  have c1 := X1.agree.cell HY1.out
  have c2 := X1.agree.cell HY2.out
  have c3 := X1.agree.cell HY3.out
  have hbl : b < w1.heap.size := World.block_lt_of_cell? w1 _ c0
  clear hv1
  go_wp2_with fail
  refine (hv2.out _ E1.out.agree S1.out).mono ?_
  unfold ValuePost
  rw [HV2.out]
  generalize hV : (S.value y).1 = V at *
  rintro e w2 ⟨ucs, rfl, X2, R2⟩
  have HRV := Lib.hid R2
  obtain ⟨va, vc, rfl, -, -, -, -⟩ := R2.open_
  have E2 := Lib.hid ((E1.out.then X2).alloc (tbox V va vc))
  have B4 := Lib.hid (Below.blk (below_alloc w2 (tbox V va vc)) (Below.blk X2.below (Below.blk (below_alloc w1 (tbox Y ya yc)) B2.out)))
  have B5 := Lib.hid (Below.blk (below_alloc w2 (tbox V va vc)) (Below.blk X2.below (Below.blk (below_alloc w1 (tbox Y ya yc)) B3.out)))
  have B6 := Lib.hid (heap_alloc_new w2 (tbox V va vc))
  have B4' := Lib.hid (Below.blk X2.below (Below.blk (below_alloc w1 (tbox Y ya yc)) B2.out))
  have B5' := Lib.hid (Below.blk X2.below (Below.blk (below_alloc w1 (tbox Y ya yc)) B3.out))
  have hA2 := Lib.hid X2.agree
  have hb2 := Lib.hid X2.below
  clear p0 p1 p2 p3 p4 p5 p6 p7 p8 c0 c1 c2 c3 hbl hv2 X1 X2 R1
  obtain ⟨p0, p1, p2, p3, p4, p5, p6, p7, p8⟩ := box4 B4'.out
  obtain ⟨q0, q1, q2, q3, q4, q5, q6, q7, q8⟩ := box4 B5'.out
  have c0 := hA2.out.cell HY0.out
  have hbl : b < w2.heap.size := World.block_lt_of_cell? w2 _ c0
  have E3 := Lib.hid (((E1.out.then (Ext.of_below E1.out.agree hb2.out)).store4 hn.out (by omega) (.int .i64 t.k) (.string t.s) (.int .i64 t.n) (.slice (some ⟨b, o, none⟩) t.l.length cap)).alloc (tbox V va vc))
  go_wp2_with fail
  exact bodyPost_ret (v := .tuple #[.agg #[.int .i64 t.k, .string t.s, .int .i64 t.n, .slice (some ⟨b, o, none⟩) t.l.length cap], .bool false, .int .i64 0]) (by simp [results, Try.results79, go_sem, q0, q1, q2, q3, q4]) rfl (step_to hst.out E3.out HR.out)
end Go.Proofs.Ytbdappbmlnpogaa
namespace Go.Proofs.Ytbdappbmlnpogaa
open Go Go.RowKit
set_option maxRecDepth 100000
theorem contractV_small {b x : Tm} : (Tm.contractV b x).1.hd6 ∧ (Tm.contractV b x).1.size ≤ 4096 := by
  unfold Tm.contractV
  split
  · rename_i h
    by_cases h0 : (Tm.contract b x).2 = 0
    · obtain ⟨h1, h2⟩ := Tm.contract_size h.1 h.2 h0
      rw [h2]
      exact ⟨Tm.shp_hd6 (Tm.shp_walk _ b 0 (Tm.shp_of_valid b h.1) (fun p _ hp => Tm.shp_substF 0 p.2 (Tm.shp_of_valid x h.2) hp)), h1⟩
    · have : (Tm.contract b x).1 = Tm.zero := by
        unfold Tm.contract at h0 ⊢
        split
        · rfl
        · rename_i hn; rw [if_neg hn] at h0; simp at h0
      rw [this]
      exact ⟨(fun h => (by cases h)), (by simp [Tm.zero, Tm.size_mk])⟩
  · exact ⟨(fun h => (by cases h)), (by simp [Tm.zero, Tm.size_mk])⟩
/-- A list's cell, the list of its first element, that one's first, and the second element. -/
abbrev S10 (g0 : Nat) (v3 : Value) (b o : Nat) (y3 : Value) (b2 o2 : Nat) (z0 z1 z2 z3 x0 x1 x2 x3 : Value) (w : World) : Prop :=
  w.cell? ⟨g0, 3, none⟩ = some v3 ∧ w.cell? ⟨b, o + 3, none⟩ = some y3 ∧ w.cell? ⟨b2, o2, none⟩ = some z0 ∧ w.cell? ⟨b2, o2 + 1, none⟩ = some z1 ∧ w.cell? ⟨b2, o2 + 2, none⟩ = some z2 ∧ w.cell? ⟨b2, o2 + 3, none⟩ = some z3 ∧
  w.cell? ⟨b, o + 4, none⟩ = some x0 ∧ w.cell? ⟨b, o + 5, none⟩ = some x1 ∧ w.cell? ⟨b, o + 6, none⟩ = some x2 ∧ w.cell? ⟨b, o + 7, none⟩ = some x3
section
variable {g0 : Nat} {v3 : Value} {b o : Nat} {y3 : Value} {b2 o2 : Nat} {z0 z1 z2 z3 x0 x1 x2 x3 : Value} {w w' : World}
theorem S10.below (h : S10 g0 v3 b o y3 b2 o2 z0 z1 z2 z3 x0 x1 x2 x3 w) (hb : Below w.heap.size w w') : S10 g0 v3 b o y3 b2 o2 z0 z1 z2 z3 x0 x1 x2 x3 w' := by
  have hc : ∀ {b i : Nat} {v : Value}, w.cell? ⟨b, i, none⟩ = some v → w'.cell? ⟨b, i, none⟩ = some v := fun h => cells4 hb (World.block_lt_of_cell? w _ h) _ h
  obtain ⟨h0, h1, h2, h3, h4, h5, h6, h7, h8, h9⟩ := h
  exact ⟨hc h0, hc h1, hc h2, hc h3, hc h4, hc h5, hc h6, hc h7, hc h8, hc h9⟩
theorem S10.alloc (h : S10 g0 v3 b o y3 b2 o2 z0 z1 z2 z3 x0 x1 x2 x3 w) (x : Obj) : S10 g0 v3 b o y3 b2 o2 z0 z1 z2 z3 x0 x1 x2 x3 (w.alloc x) := h.below (below_alloc w x)
theorem S10.drew (h : S10 g0 v3 b o y3 b2 o2 z0 z1 z2 z3 x0 x1 x2 x3 w) : S10 g0 v3 b o y3 b2 o2 z0 z1 z2 z3 x0 x1 x2 x3 w.drew := h
theorem S10.far (h : S10 g0 v3 b o y3 b2 o2 z0 z1 z2 z3 x0 x1 x2 x3 w) {g : Nat} (e0 : g0 ≠ g) (e1 : b ≠ g) (e2 : b2 ≠ g) (u0 u1 u2 u3 : Value) :
    S10 g0 v3 b o y3 b2 o2 z0 z1 z2 z3 x0 x1 x2 x3 ((((w.setCell ⟨g, 0, none⟩ u0).setCell ⟨g, 1, none⟩ u1).setCell ⟨g, 2, none⟩ u2).setCell ⟨g, 3, none⟩ u3) := by
  obtain ⟨h0, h1, h2, h3, h4, h5, h6, h7, h8, h9⟩ := h
  exact ⟨far4 e0 h0, far4 e1 h1, far4 e2 h2, far4 e2 h3, far4 e2 h4, far4 e2 h5, far4 e1 h6, far4 e1 h7, far4 e1 h8, far4 e1 h9⟩
end
set_option maxHeartbeats 8000000 in
/-- An abstraction is applied. -/
theorem step_beta {F : Nat → Prop} (H : GH) (w : World) (s : Nat) (S : St) (M : Nat) (B : Int) (t : Tm) (cs : List Value) (hA : Agree H w) (hS : StAt H w F s S) (hR : Rep H t cs) (hv : (S.value t).2 = false) (h6 : t.k = 6) (hval : t.valid = true) (hok : S.Ok M B) (hsz : t.size + M ≤ SB)
    (y : Tm) (hy : t.l[0]? = some y) (hv2' : (S.value y).2 = false) (h5 : y.k = 5) (bd : Tm) (hyl : y.l = [bd]) (x1 : Tm) (hx1 : t.l[1]? = some x1) :
    Calls Try.prog 79 #[.pointer (some ⟨s, 0, none⟩), .agg cs.toArray] w (StepPost H w S t) := by
  obtain ⟨y', hy', hgy, hyv, hl2, hys, hll, hsl⟩ := step_prep (S := S) hval h6
  rw [hy] at hy'
  injection hy' with hy'
  subst hy'
  unfold SB at hsz
  have hst0 : S.step t = (Tm.apply (Tm.contractV bd x1).1 (t.l.drop 2), true, (Tm.contractV bd x1).2) := by
    unfold St.step
    rw [if_neg (by rw [hv]; simp), if_neg (by simp [h6]), hgy, if_neg (by rw [hv2']; simp), if_neg (by simp [h5])]
    have e1 : y.l.getD 0 Tm.zero = bd := by rw [hyl]; rfl
    have e2 : t.l.getD 1 Tm.zero = x1 := by rw [List.getD_eq_getElem?_getD, hx1]; rfl
    rw [e1, e2]
  have hlb : (Tm.apply (Tm.contractV bd x1).1 (t.l.drop 2)).l.length ≤ LB := by
    have h1 := (Tm.apply_size (Tm.contractV bd x1).1 (t.l.drop 2)).1
    have h2 := (contractV_small (b := bd) (x := x1)).2
    have h3 := Tm.sizeL_drop_le t.l 2
    have h4 : ((Tm.contractV bd x1).1.apply (t.l.drop 2)).l.length < ((Tm.contractV bd x1).1.apply (t.l.drop 2)).size := by cases (Tm.contractV bd x1).1.apply (t.l.drop 2) with | mk k s n l => exact Tm.length_lt k s n l
    unfold LB; omega
  have HLB := Lib.hid hlb
  have hd6 := Lib.hid (contractV_small (b := bd) (x := x1)).1
  have hst := Lib.hid hst0
  have HV2 := Lib.hid hv2'
  have h5' : (y.k != 5) = false := by rw [bne_eq_false_iff_eq]; exact h5
  have hbz : bd.size ≤ SB := by
    have : bd.size < y.size := by cases y with | mk k s n l => simp only [Tm.l_mk] at hyl; subst hyl; exact Tm.size_lt (by simp)
    unfold SB; omega
  have hxz : x1.size ≤ SB := by
    have := Tm.size_le_sizeL (List.mem_of_getElem? hx1)
    unfold SB; omega
  have HX1 := Lib.hid hx1
  have HYL := Lib.hid hyl
  clear hlb hst0 hv2' h5 hx1 hyl
  have hv1 := Lib.hid (fun W hW (hSt : StAt H W F s S) => store_value H W s S t cs hW hSt hR)
  have HR := Lib.hid hR
  obtain ⟨a, cap, rfl, -, -, -, hT⟩ := hR.open_
  obtain ⟨-, hlc, hcm⟩ := hT.len
  unfold maxLen at hcm
  have HT := Lib.hid hT
  obtain ⟨b, o, ycs, rfl, -, hRy, hcy⟩ := hT.get hy
  have HRY := Lib.hid hRy
  have hv2 := Lib.hid (fun W hW (hSt : StAt H W F s S) => store_value H W s S y ycs hW hSt hRy)
  obtain ⟨ea, ec, rfl, -, -, -, hTy⟩ := hRy.open_
  have hlen1 : y.l.length = 1 := by rw [HYL.out]; rfl
  rw [hlen1] at hcy hv2
  rw [HYL.out] at hTy
  obtain ⟨b2, o2, bcs, rfl, -, hRb, hcb⟩ := hTy.get (i := 0) (x := bd) rfl
  obtain ⟨b', o', xcs, he, -, hRx, hcx⟩ := hT.get HX1.out
  injection he with he
  injection he with he1 he2
  subst he1; subst he2
  have hcon := Lib.hid (fun W hW => beta_Contract bd x1 bcs xcs H W hRb hRx hW hbz hxz)
  obtain ⟨ba, bc, rfl, -, -, -, -⟩ := hRb.open_
  obtain ⟨xa, xc, rfl, -, -, -, -⟩ := hRx.open_
  have HB0 := Lib.hid (hcb 0 _ rfl)
  have HB1 := Lib.hid (hcb 1 _ rfl)
  have HB2 := Lib.hid (hcb 2 _ rfl)
  have HB3 := Lib.hid (hcb 3 _ rfl)
  have HX0 := Lib.hid (hcx 0 _ rfl)
  have HXB := Lib.hid (hcx 1 _ rfl)
  have HXC := Lib.hid (hcx 2 _ rfl)
  have HXD := Lib.hid (hcx 3 _ rfl)
  simp only [Nat.add_zero, Nat.zero_mul, Nat.one_mul, Nat.add_assoc, Nat.reduceAdd] at HB0 HB1 HB2 HB3 HX0 HXB HXC HXD
  clear hRb hRx hcb hcx hTy
  have HY0 := Lib.hid (hcy 0 _ rfl)
  have HY1 := Lib.hid (hcy 1 _ rfl)
  have HY2 := Lib.hid (hcy 2 _ rfl)
  have HY3 := Lib.hid (hcy 3 _ rfl)
  simp only [Nat.add_zero, Nat.zero_mul] at HY0 HY1 HY2 HY3
  obtain ⟨E0, B0, B1, hn⟩ := enter1 t (some ⟨b, o, none⟩) cap H w hA
  have S0 := Lib.hid (hS.pure E0)
  have E0 := Lib.hid E0
  have B0 := Lib.hid B0
  have B1 := Lib.hid B1
  have hn := Lib.hid hn
  have HV := Lib.hid hv
  have h6' : (t.k != 6) = false := by rw [bne_eq_false_iff_eq]; exact h6
  have e4 : (0 : Int) < (t.l.length : Int) := by omega
  have e5 : 1 ≤ t.l.length := by omega
  have e6 : 0 < t.l.length := by omega
  have e7 : (1 : Int) < (t.l.length : Int) := by omega
  have e8 : 1 < t.l.length := by omega
  have HL2 := Lib.hid hl2
  have HLC := Lib.hid hlc
  have HLL := Lib.hid (show t.l.length ≤ 1073741824 by omega)
  clear hR hS hv h6 hT hRy hcy hy hval hok hsz hys hsl hll hgy hl2
  go_enter Try.func79, Try.ntmps79
  go_wp2_with fail
  refine (hv1.out _ E0.out.agree S0.out).mono ?_
  unfold ValuePost
  rw [HV.out]
  rintro e w1 ⟨vcs, rfl, X1, R1⟩
  generalize (S.value t).1 = Y at *
  obtain ⟨ya, yc, rfl, -, -, -, -⟩ := R1.open_
  have E1 := Lib.hid ((E0.out.then X1).alloc (tbox Y ya yc))
  have S1 := Lib.hid ((S0.out.pure X1).below (X1.agree) (below_alloc w1 (tbox Y ya yc)))
  have B2 := Lib.hid (Below.blk X1.below B0.out)
  have B3 := Lib.hid (Below.blk X1.below B1.out)
  obtain ⟨p0, p1, p2, p3, p4, p5, p6, p7, p8⟩ := box4 B2.out
  have c0 := X1.agree.cell HY0.out
  have c1 := X1.agree.cell HY1.out
  have c2 := X1.agree.cell HY2.out
  have c3 := X1.agree.cell HY3.out
  have hbl : b < w1.heap.size := World.block_lt_of_cell? w1 _ c0
  clear hv1
  go_wp2_with fail
  refine (hv2.out _ E1.out.agree S1.out).mono ?_
  unfold ValuePost
  rw [HV2.out]
  generalize hV : (S.value y).1 = V at *
  rintro e w2 ⟨ucs, rfl, X2, R2⟩
  have HRV := Lib.hid R2
  obtain ⟨va, vc, rfl, -, -, -, -⟩ := R2.open_
  have E2 := Lib.hid ((E1.out.then X2).alloc (tbox V va vc))
  have B4 := Lib.hid (Below.blk (below_alloc w2 (tbox V va vc)) (Below.blk X2.below (Below.blk (below_alloc w1 (tbox Y ya yc)) B2.out)))
  have B5 := Lib.hid (Below.blk (below_alloc w2 (tbox V va vc)) (Below.blk X2.below (Below.blk (below_alloc w1 (tbox Y ya yc)) B3.out)))
  have B6 := Lib.hid (heap_alloc_new w2 (tbox V va vc))
  have B4' := Lib.hid (Below.blk X2.below (Below.blk (below_alloc w1 (tbox Y ya yc)) B2.out))
  have B5' := Lib.hid (Below.blk X2.below (Below.blk (below_alloc w1 (tbox Y ya yc)) B3.out))
  have hA2 := Lib.hid X2.agree
  have hb2 := Lib.hid X2.below
  clear p0 p1 p2 p3 p4 p5 p6 p7 p8 c0 c1 c2 c3 hbl hv2 X1 X2 R1
  obtain ⟨p0, p1, p2, p3, p4, p5, p6, p7, p8⟩ := box4 B4'.out
  have c0 := hA2.out.cell HY0.out
  have hbl : b < w2.heap.size := World.block_lt_of_cell? w2 _ c0
  generalize hC : Tm.contractV bd x1 = C at *
  obtain ⟨C, Z⟩ := C
  dsimp only at hst HLB hd6 hcon
  have hd1 := hA2.out.cell HB0.out
  have hbl2 : b2 < w2.heap.size := World.block_lt_of_cell? w2 _ hd1
  have AG1 := Lib.hid E2.out.agree.drew
  have AG2 := Lib.hid (E2.out.alloc zbox).agree.drew
  have BZ := Lib.hid (show ((w2.alloc (tbox V va vc)).alloc zbox).drew.heap[w2.heap.size + 1]? = some zbox from heap_alloc_at _ _ _ (by simp))
  have hA3 := E2.out.agree
  have K : S10 w.heap.size (.slice (some ⟨b, o, none⟩) t.l.length cap) b o (.slice (some ⟨b2, o2, none⟩) 1 ec) b2 o2 (.int .i64 bd.k) (.string bd.s) (.int .i64 bd.n) (.slice ba bd.l.length bc) (.int .i64 x1.k) (.string x1.s) (.int .i64 x1.n) (.slice xa x1.l.length xc) (w2.alloc (tbox V va vc)) :=
    ⟨(blk_cells B4.out 3).1, hA3.cell HY3.out, hA3.cell HB0.out, hA3.cell HB1.out, hA3.cell HB2.out, hA3.cell HB3.out, hA3.cell HX0.out, hA3.cell HXB.out, hA3.cell HXC.out, hA3.cell HXD.out⟩
  have K0 := K.drew
  have K1 := (K.alloc zbox).drew
  have hz2 : w.heap.size < w2.heap.size := p0
  have N0 : w.heap.size ≠ w2.heap.size + 1 := by omega
  have N1 : b ≠ w2.heap.size + 1 := by omega
  have N2 : b2 ≠ w2.heap.size + 1 := by omega
  clear hA3 hd1
  go_upto_region 11 with fail
  go_cut [11, 12] from 47 (fun v11 v12 wx => CutBox (w2.alloc (tbox V va vc)) H C v11 wx ∧ v12 = .int .i64 Z)
  case first =>
    go_region_held3 (fun w' => w'.cell? ⟨w.heap.size, 3, none⟩ = some (.slice (some ⟨b, o, none⟩) t.l.length cap) ∧ w'.cell? ⟨b, o + 3, none⟩ = some (.slice (some ⟨b2, o2, none⟩) 1 ec) ∧ w'.cell? ⟨b2, o2, none⟩ = some (.int .i64 bd.k) ∧ w'.cell? ⟨b2, o2 + 1, none⟩ = some (.string bd.s) ∧ w'.cell? ⟨b2, o2 + 2, none⟩ = some (.int .i64 bd.n) ∧ w'.cell? ⟨b2, o2 + 3, none⟩ = some (.slice ba bd.l.length bc) ∧ w'.cell? ⟨b, o + 4, none⟩ = some (.int .i64 x1.k) ∧ w'.cell? ⟨b, o + 5, none⟩ = some (.string x1.s) ∧ w'.cell? ⟨b, o + 6, none⟩ = some (.int .i64 x1.n) ∧ w'.cell? ⟨b, o + 7, none⟩ = some (.slice xa x1.l.length xc)) (with_reducible (first | exact K0 | exact K1 | exact KJ | exact KJ.alloc _ | exact KJ.far N0 N1 N2 _ _ _ _)) (first | (go_at_call 88; ((with_reducible refine (hcon.out _ AG1.out).mono ?_); rintro e w3 ⟨H3, ccs, rfl, X3, R3⟩; obtain ⟨ca, cc, rfl, -, -, -, -⟩ := R3.open_; have KJ := K0.below X3.below)) | (go_at_call 88; ((with_reducible refine (hcon.out _ AG2.out).mono ?_); rintro e w3 ⟨H3, ccs, rfl, X3, R3⟩; obtain ⟨ca, cc, rfl, -, -, -, -⟩ := R3.open_; have KJ := K1.below X3.below; obtain ⟨j0, j1, j2, j3, j4, j5, j6, j7, j8⟩ := box4 (Below.blk X3.below BZ.out))))
    · go_wp2_with fail
      go_meet
      exact ⟨⟨w3.heap.size, H3, ca, cc, rfl, ((Ext.refl E2.out.agree).drew.then X3).alloc _, R3, heap_alloc_new _ _, X3.agree.free (Nat.le_refl _), X3.size⟩, rfl⟩
    · go_wp2_with fail
      go_meet
      have hz : w2.heap.size + 1 < ((w2.alloc (tbox V va vc)).alloc zbox).drew.heap.size := by simp
      have hn2 : H3 (w2.heap.size + 1) = none := (X3.old _ hz).trans (hA2.out.free (by omega))
      exact ⟨⟨w2.heap.size + 1, H3, ca, cc, rfl, (((Ext.refl E2.out.agree).alloc zbox).drew.then X3).store4 hn2 (by simp) _ _ _ _, R3, blk_set4 _ _ _ _ (Below.blk X3.below BZ.out), hn2, by simp⟩, rfl⟩
  case rest =>
    obtain ⟨⟨g, H3, ca, cc, rfl, X3, R3, hg, hng, hwg⟩, rfl⟩ := hcut
    have E3 := E2.out.then X3
    have HR3 := Lib.hid R3
    have B7 := Lib.hid (Below.blk X3.below B4.out)
    have B8 := Lib.hid (Below.blk X3.below B5.out)
    have hz3 : w.heap.size + 1 < w2.heap.size := cell_lt B5'.out
    have hgg : w2.heap.size < g := by simp at hwg; omega
    have Q : S5 w.heap.size (.slice (some ⟨b, o, none⟩) t.l.length cap) g 0 (.int .i64 C.k) (.string C.s) (.int .i64 C.n) (.slice ca C.l.length cc) wc :=
      ⟨(blk_cells B7.out 3).1, (blk_cells hg 0).1, (blk_cells hg 1).1, (blk_cells hg 2).1, (blk_cells hg 3).1⟩
    have Q0 := Q.drew
    have M1 : w.heap.size ≠ w.heap.size + 1 := by omega
    have M2 : g ≠ w.heap.size + 1 := by omega
    have AG := Lib.hid E3.agree.drew
    have HT3 := Lib.hid (Tms.mono X3.sub HT.out)
    have hn3 : H3 (w.heap.size + 1) = none := (X3.old _ (by simp; omega)).trans hn.out
    have HN3 := Lib.hid hn3
    have HE3 := Lib.hid E3
    have HZ3 := Lib.hid (show w.heap.size + 1 < wc.heap.size by have := X3.size; simp at this; omega)
    clear hcon X3 R3 hg K K0 K1 N0 N1 N2 AG1 AG2 BZ p0 p1 p2 p3 p4 p5 p6 p7 p8 c0 hbl hbl2 hz2 E3 hn3
    have f1 : (2 : Int) ≤ (t.l.length : Int) := by omega
    have f2 : 2 ≤ t.l.length := by omega
    have f3 : (2 : Int) ≤ (cap : Int) := by have := HLC.out; omega
    by_cases hcap : cap = 2
    · subst hcap
      have hl2 : t.l.length = 2 := by have := HLC.out; omega
      have hdn : t.l.drop 2 = [] := List.drop_eq_nil_of_le (by omega)
      have hTd : Tms H3 (.slice (some ⟨b, o, none⟩) 0 0) (t.l.drop 2) := by
        rw [hdn]
        exact Sl.nil' _ _ _ _ _ (by unfold maxLen; omega)
      clear hl2 hdn
      have hap := Lib.hid (fun W hW => term_Apply C _ (t.l.drop 2) _ H3 W HR3.out hTd hW hd6.out HLB.out)
      generalize hZ : C.apply (t.l.drop 2) = R at *
      go_wp2_with fail
      go_region_held3 (fun w' => w'.cell? ⟨w.heap.size, 3, none⟩ = some (.slice (some ⟨b, o, none⟩) t.l.length 2) ∧ w'.cell? ⟨g, 0, none⟩ = some (.int .i64 C.k) ∧ w'.cell? ⟨g, 0 + 1, none⟩ = some (.string C.s) ∧ w'.cell? ⟨g, 0 + 2, none⟩ = some (.int .i64 C.n) ∧ w'.cell? ⟨g, 0 + 3, none⟩ = some (.slice ca C.l.length cc)) (with_reducible (first | exact Q0 | exact KJ | exact KJ.far M1 M2 _ _ _ _)) (first | (go_at_call 14; ((with_reducible refine (hap.out _ AG.out).mono ?_); rintro e w4 ⟨H4, rcs, rfl, X4, R4⟩; have KJ := Q0.below X4.below; have HR4 := Lib.hid R4; obtain ⟨ra, rc, rfl, -, -, -, -⟩ := R4.open_; obtain ⟨q0, q1, q2, q3, q4, q5, q6, q7, q8⟩ := box4 (Below.blk X4.below (Below.blk (Below.refl _ _).drew B8.out)))))
      have hn4 : H4 (w.heap.size + 1) = none := (X4.old _ (by have := HZ3.out; simp; omega)).trans HN3.out
      have E4 := Lib.hid ((HE3.out.drew.then X4).store4 hn4 (by omega) (.int .i64 R.k) (.string R.s) (.int .i64 R.n) (.slice ra R.l.length rc))
      go_wp2_with fail
      exact bodyPost_ret (v := .tuple #[.agg #[.int .i64 R.k, .string R.s, .int .i64 R.n, .slice ra R.l.length rc], .bool true, .int .i64 Z]) (by simp [results, Try.results79, go_sem, q0, q1, q2, q3, q4]) rfl (step_to hst.out E4.out HR4.out)
    · have hTd := HT3.out.drop 2 (by omega)
      simp only [Nat.reduceMul] at hTd
      have hap := Lib.hid (fun W hW => term_Apply C _ (t.l.drop 2) _ H3 W HR3.out hTd hW hd6.out HLB.out)
      generalize hZ : C.apply (t.l.drop 2) = R at *
      go_wp2_with fail
      go_region_held3 (fun w' => w'.cell? ⟨w.heap.size, 3, none⟩ = some (.slice (some ⟨b, o, none⟩) t.l.length cap) ∧ w'.cell? ⟨g, 0, none⟩ = some (.int .i64 C.k) ∧ w'.cell? ⟨g, 0 + 1, none⟩ = some (.string C.s) ∧ w'.cell? ⟨g, 0 + 2, none⟩ = some (.int .i64 C.n) ∧ w'.cell? ⟨g, 0 + 3, none⟩ = some (.slice ca C.l.length cc)) (with_reducible (first | exact Q0 | exact KJ | exact KJ.far M1 M2 _ _ _ _)) (first | (go_at_call 14; ((with_reducible refine (hap.out _ AG.out).mono ?_); rintro e w4 ⟨H4, rcs, rfl, X4, R4⟩; have KJ := Q0.below X4.below; have HR4 := Lib.hid R4; obtain ⟨ra, rc, rfl, -, -, -, -⟩ := R4.open_; obtain ⟨q0, q1, q2, q3, q4, q5, q6, q7, q8⟩ := box4 (Below.blk X4.below (Below.blk (Below.refl _ _).drew B8.out)))))
      have hn4 : H4 (w.heap.size + 1) = none := (X4.old _ (by have := HZ3.out; simp; omega)).trans HN3.out
      have E4 := Lib.hid ((HE3.out.drew.then X4).store4 hn4 (by omega) (.int .i64 R.k) (.string R.s) (.int .i64 R.n) (.slice ra R.l.length rc))
      go_wp2_with fail
      exact bodyPost_ret (v := .tuple #[.agg #[.int .i64 R.k, .string R.s, .int .i64 R.n, .slice ra R.l.length rc], .bool true, .int .i64 Z]) (by simp [results, Try.results79, go_sem, q0, q1, q2, q3, q4]) rfl (step_to hst.out E4.out HR4.out)
end Go.Proofs.Ytbdappbmlnpogaa
namespace Go.Proofs.Ytbdappbmlnpogaa
open Go Go.RowKit
set_option maxRecDepth 100000
theorem store_step {F : Nat → Prop} (H : GH) (w : World) (s : Nat) (S : St) (M : Nat) (B : Int) (t : Tm) (cs : List Value) (hA : Agree H w) (hS : StAt H w F s S) (hR : Rep H t cs) (hv : t.valid = true) (hok : S.Ok M B) (hsz : t.size + M ≤ SB) :
    Calls Try.prog 79 #[.pointer (some ⟨s, 0, none⟩), .agg cs.toArray] w (StepPost H w S t) := by
  cases h1 : (S.value t).2 with
  | true => exact step_val H w s S t cs hA hS hR h1
  | false =>
    by_cases h6 : t.k = 6
    · obtain ⟨y, hy, -, hyv, hl2, -⟩ := step_prep (S := S) hv h6
      cases h2 : (S.value y).2 with
      | true => exact step_appval H w s S M B t cs hA hS hR h1 h6 hv hok hsz y hy h2
      | false =>
        by_cases h5 : y.k = 5
        · obtain ⟨bd, hb⟩ : ∃ bd, y.l = [bd] := by
            cases y with
            | mk k s n l =>
              simp only [Tm.k_mk, Tm.l_mk] at h5 ⊢
              subst h5
              exact List.length_eq_one_iff.1 (Tm.ok1_lam.1 ((Tm.valid_iff ..).1 hyv).1).2.2
          obtain ⟨x1, hx1⟩ : ∃ x, t.l[1]? = some x := ⟨_, List.getElem?_eq_getElem (by omega)⟩
          exact step_beta H w s S M B t cs hA hS hR h1 h6 hv hok hsz y hy h2 h5 bd hb x1 hx1
        · exact step_appleaf H w s S M B t cs hA hS hR h1 h6 hv hok hsz y hy h2 h5
    · exact step_leaf H w s S t cs hA hS hR h1 h6
def HeadPost (fb : Nat) (H : GH) (w : World) (S : St) (t : Tm) (f : Int) (e : Ending) (w' : World) : Prop :=
  ∃ H' cs', e = .returned (.tuple #[.agg cs'.toArray, .int .i64 (S.head t f).2.1]) ∧ Ext (fun k => k = fb) H w H' w' ∧ Rep H' (S.head t f).1 cs' ∧ w'.heap[fb]? = some (.cells #[.int .i64 (S.head t f).2.2] 3 (0, 0))
/-- What holds at the head of the loop. -/
def HeadRel (fb : Nat) (F : Nat → Prop) (s : Nat) (M : Nat) (H : GH) (w : World) (S : St) (t : Tm) (f : Int) (wr : World) : Prop :=
  ∃ (Hc : GH) (t' : Tm) (f' B : Int) (a : Option Addr) (cap : Nat), S.head t f = S.head t' f' ∧ t'.valid = true ∧ t'.bnd B = true ∧ S.Ok M B ∧ t'.size + f'.toNat * M + M ≤ SB ∧ B + f'.toNat * SB + SB ≤ Tm.far ∧ I64 f' ∧
    Ext (fun k => k = fb) H w Hc wr ∧ Rep Hc t' (tcells t' a cap).toList ∧ wr.heap[w.heap.size]? = some (tbox t' a cap) ∧ wr.heap[w.heap.size + 1]? = some zbox ∧ wr.heap[fb]? = some (.cells #[.int .i64 f'] 3 (0, 0)) ∧ StAt Hc wr F s S ∧ Hc (w.heap.size) = none ∧ Hc (w.heap.size + 1) = none ∧ Hc fb = none
set_option maxHeartbeats 8000000 in
theorem store_head_tight {F : Nat → Prop} (fb : Nat) (H : GH) (w : World) (s : Nat) (S : St) (M : Nat) (B : Int) (t : Tm) (f : Int) (cs : List Value) (hA : Agree H w) (hS : StAt H w F s S) (hR : Rep H t cs) (hv : t.valid = true) (hb : t.bnd B = true) (hok : S.Ok M B) (hsz : t.size + f.toNat * M + M ≤ SB) (hB : B + f.toNat * SB + SB ≤ Tm.far) (hf : I64 f)
    (hfb : w.heap[fb]? = some (.cells #[.int .i64 f] 3 (0, 0))) (hfH : H fb = none) (hfF : ¬ F fb) (hFl : ∀ k, F k → k < w.heap.size) :
    Calls Try.prog 59 #[.pointer (some ⟨s, 0, none⟩), .agg cs.toArray, .pointer (some ⟨fb, 0, none⟩)] w (HeadPost fb H w S t f) := by
  have HR := Lib.hid hR
  obtain ⟨a, cap, rfl, -, -, -, -⟩ := hR.open_
  obtain ⟨E0, B0, B1, hn⟩ := enter1 t a cap H w hA
  have hlt := cell_lt hfb
  have hrel : HeadRel fb F s M H w S t f ((w.alloc (tbox t a cap)).alloc zbox) := ⟨H, t, f, B, a, cap, rfl, hv, hb, hok, hsz, hB, hf, E0.mono (fun _ h => h.elim), HR.out, B0, B1, (Below.blk (below_alloc _ _) (Below.blk (below_alloc _ _) hfb)), hS.pure E0, hA.free (Nat.le_refl _), hn, hfH⟩
  have HREL := Lib.hid hrel
  have HFF := Lib.hid hfF
  have HFL := Lib.hid hFl
  clear hrel hfF hFl hS hv hb hok hsz hB hf hfb hfH hn B0 B1 E0 hR HR
  go_enter Try.func59, Try.ntmps59
  go_wp2_with fail
  go_loopw [] (fun wr => HeadRel fb F s M H w S t f wr) (fun wr => (intOf ((wr.cell? ⟨fb, 0, none⟩).getD undef)).toNat)
  case atStart => exact HREL.out
  case round =>
    obtain ⟨Hc, t', f', B', a', cap', r1, r2, r3, r4, r5, r6, r7, EC, RC, C0, C1, C2, SC, n0, n1, n2⟩ := hrel
    have hstep := Lib.hid (store_step Hc wr s S M B' t' _ EC.agree SC RC r2 r4 (by have := Nat.zero_le (f'.toNat * M); omega))
    have hhd := Lib.hid (St.head_eq S t' f')
    have RC' := Lib.hid RC
    obtain ⟨p0, p1, p2, p3, p4, p5, p6, p7, p8⟩ := box4 C0
    obtain ⟨q0, q1, q2, q3, q4, q5, q6, q7, q8⟩ := box4 C1
    obtain ⟨g0, g1⟩ := blk_cell C2
    have g2 := cell_lt C2
    have R1 := Lib.hid r1
    have R4 := Lib.hid r4
    have R5 := Lib.hid r5
    have HC0 := Lib.hid C0
    have HC1 := Lib.hid C1
    have HC2 := Lib.hid C2
    have HSC := Lib.hid SC
    have hfit : ∀ r, S.step t' = (r, true, 0) → Tm.Fit (t'.size + M) (B' + SB) r := fun r hr => by
      have := St.step_fit r4 (t := t') ⟨r2, Nat.le_refl _, r3⟩ (by have := Nat.zero_le (f'.toNat * M); omega) (by have : (0 : Int) ≤ f'.toNat * SB := Int.mul_nonneg (by omega) (by omega); omega) (by rw [hr]) (by rw [hr])
      rwa [hr] at this
    have HFIT := Lib.hid hfit
    clear hfit r1 r2 r3 r4 r5 C0 C1 C2 SC RC
    unfold I64 at r7
    obtain ⟨r7a, r7b⟩ := r7
    have hw1 := IntWalk.i64_in (f' - 1)
    go_wp2_with fail
    refine hstep.out.mono ?_
    unfold StepPost
    generalize hS' : S.step t' = st at *
    obtain ⟨u, is, er⟩ := st
    dsimp only at hhd
    rintro e w2 ⟨H2, ucs, rfl, X2, R2⟩
    have HR2 := Lib.hid R2
    have HX2 := Lib.hid X2
    obtain ⟨ua, uc, rfl, -, -, -, -⟩ := R2.open_
    have D0 := Lib.hid (Below.blk X2.below HC0.out)
    have D1 := Lib.hid (Below.blk X2.below HC1.out)
    have D2 := Lib.hid (Below.blk X2.below HC2.out)
    have E2 := Lib.hid (EC.then X2)
    have m0 := (X2.old _ p0).trans n0
    have m1 := (X2.old _ q0).trans n1
    have m2 := (X2.old _ g2).trans n2
    have HS' := Lib.hid hS'
    clear p0 p1 p2 p3 p4 p5 p6 p7 p8 q0 q1 q2 q3 q4 q5 q6 q7 q8 g0 g1 g2 X2 R2 hS' hstep n0 n1 n2 EC
    obtain ⟨p0, p1, p2, p3, p4, p5, p6, p7, p8⟩ := box4 D0.out
    obtain ⟨q0, q1, q2, q3, q4, q5, q6, q7, q8⟩ := box4 D1.out
    obtain ⟨g0, g1⟩ := blk_cell D2.out
    have g2 := cell_lt D2.out
    cases is with
    | false =>
      have hout : Hid (S.head t f = (t', 0, f')) := Lib.hid (by rw [R1.out, hhd.out, if_pos rfl])
      go_wp2_with fail
      refine bodyPost_ret (v := .tuple #[.agg #[.int .i64 t'.k, .string t'.s, .int .i64 t'.n, .slice a' t'.l.length cap'], .int .i64 0]) (by simp [results, Try.results59, go_sem, q0, q1, q2, q3, q4]) rfl ?_
      unfold HeadPost
      rw [hout.out]
      exact ⟨H2, _, rfl, (E2.out.store4 m1 (by omega) _ _ _ _).alloc _, RC'.out.mono HX2.out.sub, Below.blk (below_alloc _ _) ((blk_far4 _ _ _ _ (by omega)).trans D2.out)⟩
    | true =>
      by_cases her : er = 0
      · subst her
        by_cases hf0 : f' ≤ 0
        · have hout : Hid (S.head t f = (Tm.zero, 80, f')) := Lib.hid (by rw [R1.out, hhd.out, if_neg (by simp), if_pos (.inr hf0)])
          go_wp2_with fail
          refine bodyPost_ret (v := .tuple #[.agg #[.int .i64 0, .string ⟨#[]⟩, .int .i64 0, .slice none 0 0], .int .i64 80]) (by simp [results, Try.results59, go_sem, q0, q1, q2, q3, q4]) rfl ?_
          unfold HeadPost
          rw [hout.out]
          exact ⟨H2, _, rfl, (E2.out.store4 m1 (by omega) _ _ _ _).alloc _, rep_zero H2, Below.blk (below_alloc _ _) ((blk_far4 _ _ _ _ (by omega)).trans D2.out)⟩
        · have hfit := HFIT.out u rfl
          have hM : f'.toNat * M = (f' - 1).toNat * M + M := by rw [show f'.toNat = (f' - 1).toNat + 1 by omega, Nat.succ_mul]
          have hSB : (f'.toNat : Int) * SB = ((f' - 1).toNat : Int) * SB + SB := by
            rw [show f'.toNat = (f' - 1).toNat + 1 by omega]
            push_cast
            rw [Int.add_mul]
            omega
          have F1 := Lib.hid hfit
          have F2 := Lib.hid (show u.size + (f' - 1).toNat * M + M ≤ SB by have := hfit.s; have := R5.out; omega)
          have F3 := Lib.hid (show B' + SB + (f' - 1).toNat * SB + SB ≤ Tm.far by omega)
          clear hfit hM hSB r6
          go_wp2_with fail
          go_roundw
          case rel =>
            have T0 : Ext (fun k => k = fb) H2 w2 H2 (w2.setCell ⟨fb, 0, none⟩ (.int .i64 (f' - 1))) := (Ext.refl (O := fun k => k = fb) HX2.out.agree).setCell (p := ⟨fb, 0, none⟩) m2 (fun _ => rfl) _
            have T1 : Ext (fun k => k = fb ∨ k = w.heap.size) H2 w2 H2 (((((w2.setCell ⟨fb, 0, none⟩ (.int .i64 (f' - 1))).setCell ⟨w.heap.size, 0, none⟩ (.int .i64 u.k)).setCell ⟨w.heap.size, 1, none⟩ (.string u.s)).setCell ⟨w.heap.size, 2, none⟩ (.int .i64 u.n)).setCell ⟨w.heap.size, 3, none⟩ (.slice ua u.l.length uc)) :=
              ((((T0.mono (O' := fun k => k = fb ∨ k = w.heap.size) (fun k h => .inl h)).setCell (p := ⟨w.heap.size, 0, none⟩) m0 (fun _ => .inr rfl) _).setCell (p := ⟨w.heap.size, 1, none⟩) m0 (fun _ => .inr rfl) _).setCell (p := ⟨w.heap.size, 2, none⟩) m0 (fun _ => .inr rfl) _).setCell (p := ⟨w.heap.size, 3, none⟩) m0 (fun _ => .inr rfl) _
            have ST := ((HSC.out.pure HX2.out).ext T1 (fun k hk hF => by
              rcases hk with e | e
              · subst e; exact HFF.out hF
              · subst e; have := HFL.out _ hF; omega)).below T1.agree (below_alloc _ (tbox u ua uc))
            have D0' : (w2.setCell ⟨fb, 0, none⟩ (.int .i64 (f' - 1))).heap[w.heap.size]? = some (tbox t' a' cap') := (Below.heap_setCell w2 ⟨fb, 0, none⟩ _ w.heap.size (by simp; omega)).trans D0.out
            have D1' : (w2.setCell ⟨fb, 0, none⟩ (.int .i64 (f' - 1))).heap[w.heap.size + 1]? = some zbox := (Below.heap_setCell w2 ⟨fb, 0, none⟩ _ (w.heap.size + 1) (by simp; omega)).trans D1.out
            refine ⟨H2, u, f' - 1, B' + SB, ua, uc, ?_, F1.out.v, F1.out.b, R4.out.mono (by omega), F2.out, F3.out, by unfold I64; omega, ?_, HR2.out, ?_, ?_, ?_, ST, m0, m1, m2⟩
            · rw [R1.out, hhd.out, if_neg (by simp), if_neg (by simp; omega)]
            · exact ((E2.out.setCell (p := ⟨fb, 0, none⟩) m2 (fun _ => rfl) _).store4 m0 (Nat.le_refl _) _ _ _ _).alloc _
            · exact Below.blk (below_alloc _ _) (blk_set4 _ _ _ _ D0')
            · exact Below.blk (below_alloc _ _) ((blk_far4 _ _ _ _ (by omega)).trans D1')
            · exact Below.blk (below_alloc _ _) ((blk_far4 _ _ _ _ (by omega)).trans (blk_set D2.out))
          case measure =>
            have z1 := (blk_cell (Below.blk (below_alloc _ (tbox u ua uc)) ((blk_far4 (w := w2.setCell ⟨fb, 0, none⟩ (.int .i64 (f' - 1))) (b := w.heap.size) (k := fb) (.int .i64 u.k) (.string u.s) (.int .i64 u.n) (.slice ua u.l.length uc) (by omega)).trans (blk_set D2.out)))).1
            have z2 := (blk_cell HC2.out).1
            rw [z1, z2]
            simp only [Option.getD_some, intOf]
            omega
      · have hout : Hid (S.head t f = (Tm.zero, 80, f')) := Lib.hid (by rw [R1.out, hhd.out, if_neg (by simp), if_pos (.inl her)])
        have her' : (er != 0) = true := by rw [bne_iff_ne]; exact her
        go_wp2_with fail
        refine bodyPost_ret (v := .tuple #[.agg #[.int .i64 0, .string ⟨#[]⟩, .int .i64 0, .slice none 0 0], .int .i64 80]) (by simp [results, Try.results59, go_sem, q0, q1, q2, q3, q4]) rfl ?_
        unfold HeadPost
        rw [hout.out]
        exact ⟨H2, _, rfl, (E2.out.store4 m1 (by omega) _ _ _ _).alloc _, rep_zero H2, Below.blk (below_alloc _ _) ((blk_far4 _ _ _ _ (by omega)).trans D2.out)⟩
theorem StAt.tight {H : GH} {w : World} {F : Nat → Prop} {s : Nat} {S : St} (h : StAt H w F s S) : StAt H w (fun k => F k ∧ k < w.heap.size) s S := by
  obtain ⟨vi, vt, h1, h2, h3, h4, h5, h6, h7⟩ := h
  exact ⟨vi, vt, h1, h2, ⟨h3, cell_lt h1⟩, h4, h5, fun g hg => ⟨⟨(h6 g hg).1, (h4.lt g hg).2⟩, (h6 g hg).2⟩, fun g hg => ⟨⟨(h7 g hg).1, (h5.lt g hg).2⟩, (h7 g hg).2⟩⟩
/-- store.head. -/
theorem store_head {F : Nat → Prop} (fb : Nat) (H : GH) (w : World) (s : Nat) (S : St) (M : Nat) (B : Int) (t : Tm) (f : Int) (cs : List Value) (hA : Agree H w) (hS : StAt H w F s S) (hR : Rep H t cs) (hv : t.valid = true) (hb : t.bnd B = true) (hok : S.Ok M B) (hsz : t.size + f.toNat * M + M ≤ SB) (hB : B + f.toNat * SB + SB ≤ Tm.far) (hf : I64 f)
    (hfb : w.heap[fb]? = some (.cells #[.int .i64 f] 3 (0, 0))) (hfH : H fb = none) (hfF : ¬ F fb) :
    Calls Try.prog 59 #[.pointer (some ⟨s, 0, none⟩), .agg cs.toArray, .pointer (some ⟨fb, 0, none⟩)] w (HeadPost fb H w S t f) :=
  store_head_tight fb H w s S M B t f cs hA hS.tight hR hv hb hok hsz hB hf hfb hfH (fun h => hfF h.1) (fun _ h => h.2)
end Go.Proofs.Ytbdappbmlnpogaa
namespace Go.Proofs.Ytbdappbmlnpogaa
open Go Go.RowKit
set_option maxRecDepth 100000
def FullPost (fb : Nat) (H : GH) (w : World) (r : Tm × Int × Int) (e : Ending) (w' : World) : Prop :=
  ∃ H' cs', e = .returned (.tuple #[.agg cs'.toArray, .int .i64 r.2.1]) ∧ Ext (fun k => k = fb) H w H' w' ∧ Rep H' r.1 cs' ∧ w'.heap[fb]? = some (.cells #[.int .i64 r.2.2] 3 (0, 0))
/-- What full is asked, at a depth. -/
def FullAt (fb : Nat) (F : Nat → Prop) (s : Nat) (S : St) (M m : Nat) : Prop :=
  ∀ (t : Tm) (f B : Int) (cs : List Value) (H : GH) (w : World), f.toNat ≤ m → Agree H w → StAt H w F s S → Rep H t cs → t.valid = true → t.bnd B = true → S.Ok M B → t.size + f.toNat * M + M ≤ SB → B + f.toNat * SB + SB ≤ Tm.far → I64 f →
    w.heap[fb]? = some (.cells #[.int .i64 f] 3 (0, 0)) → H fb = none → ¬ F fb → (∀ k, F k → k < w.heap.size) →
    Calls Try.prog 34 #[.pointer (some ⟨s, 0, none⟩), .agg cs.toArray, .pointer (some ⟨fb, 0, none⟩)] w (FullPost fb H w (St.fullF S m t f))
/-- What holds at the head of the loop: so many kids are done. -/
def FullRel (fb : Nat) (F : Nat → Prop) (s : Nat) (S : St) (M m : Nat) (base : Nat) (H : GH) (w : World) (h : Tm) (a : Option Addr) (cap : Nat) (R : List Tm × Int × Int) (f1 B : Int) (v i : Value) (wr : World) : Prop :=
  ∃ (j : Nat) (Hc : GH) (acc : List Tm) (f' : Int), j ≤ h.l.length ∧ i = .int .i64 j ∧ acc.length = j ∧ ((h.k = 6 ∧ j = 0 ∧ f' = f1) ∨ (R = St.mapF (St.fullF S m) acc (h.l.drop j) f' ∧ (h.k = 6 → 0 < j))) ∧
    (∀ u ∈ h.l.drop j, u.valid = true ∧ u.bnd B = true) ∧ Tm.sizeL (h.l.drop j) + f'.toNat * M + M ≤ SB ∧ B + f'.toNat * SB + SB ≤ Tm.far ∧ 0 ≤ f' ∧ f'.toNat ≤ m ∧ I64 f' ∧
    Ext (fun k => k = fb) H w Hc wr ∧ Own Hc wr base 30 4 (Rep Hc) v (acc ++ h.l.drop j) ∧ wr.heap[w.heap.size]? = some (tbox h a cap) ∧ wr.heap[w.heap.size + 1]? = some zbox ∧ wr.heap[fb]? = some (.cells #[.int .i64 f'] 3 (0, 0)) ∧ StAt Hc wr F s S ∧ Hc w.heap.size = none ∧ Hc (w.heap.size + 1) = none ∧ Hc fb = none
set_option maxHeartbeats 8000000 in
theorem store_full_zero (fb : Nat) (F : Nat → Prop) (s : Nat) (S : St) (m : Nat) (t : Tm) (f : Int) (cs : List Value) (H : GH) (w : World) (hf : f ≤ 0) (hA : Agree H w) (hR : Rep H t cs) (hfb : w.heap[fb]? = some (.cells #[.int .i64 f] 3 (0, 0))) :
    Calls Try.prog 34 #[.pointer (some ⟨s, 0, none⟩), .agg cs.toArray, .pointer (some ⟨fb, 0, none⟩)] w (FullPost fb H w (St.fullF S m t f)) := by
  have ho := Lib.hid (show St.fullF S m t f = (Tm.zero, 80, f) by cases m with | zero => rfl | succ m => rw [St.fullF, if_pos hf])
  obtain ⟨a, cap, rfl, -, -, -, -⟩ := hR.open_
  obtain ⟨g0, g1⟩ := blk_cell hfb
  have g2 := cell_lt hfb
  have E1 := Lib.hid (((Ext.refl (O := fun k => k = fb) hA).alloc (tbox t a cap)).alloc zbox)
  have D := Lib.hid (show ((w.alloc (tbox t a cap)).alloc zbox).heap[fb]? = some (.cells #[.int .i64 f] 3 (0, 0)) from Below.blk (below_alloc _ _) (Below.blk (below_alloc _ _) hfb))
  clear hR
  go_enter Try.func34, Try.ntmps34
  go_wp2_with fail
  refine bodyPost_ret (v := .tuple #[.agg #[.int .i64 0, .string ⟨#[]⟩, .int .i64 0, .slice none 0 0], .int .i64 80]) (by simp [results, Try.results34, go_sem]) rfl ?_
  rw [ho.out]
  exact ⟨H, _, rfl, E1.out, rep_zero H, D.out⟩
theorem setRow4 (w : World) (g o : Nat) (a b c d : Value) : setRow w g o [a, b, c, d] = (((w.setCell ⟨g, o, none⟩ a).setCell ⟨g, o + 1, none⟩ b).setCell ⟨g, o + 2, none⟩ c).setCell ⟨g, o + 3, none⟩ d := rfl
theorem set_mid {α : Type} (acc : List α) (x y : α) (ts : List α) (j : Nat) (h : acc.length = j) : (acc ++ x :: ts).set j y = (acc ++ [y]) ++ ts := by
  subst h
  rw [List.set_append_right _ _ (Nat.le_refl _)]
  simp
/-- The store is not touched by a row of another. -/
theorem StAt.heapF {H : GH} {w : World} {F : Nat → Prop} {s : Nat} {S : St} (h : StAt H w F s S) (hA : Agree H w) {g : Nat} (hg : H g = none) (hF : ¬ F g) (v0 v1 v2 v3 : Value) (o : Nat) : StAt H (setRow w g o [v0, v1, v2, v3]) F s S :=
  h.ext (Ext.setRow (O := fun k => k = g) hg (fun _ => rfl) _ _ _ (Ext.refl hA)) (fun k hk hf => by subst hk; exact hF hf)
set_option maxHeartbeats 8000000 in
theorem store_full_succ (fb : Nat) (F : Nat → Prop) (s : Nat) (S : St) (M m : Nat) (ih : FullAt fb F s S M m) : FullAt fb F s S M (m + 1) := by
  intro t f B cs H w hfm hA hS hR hv hb hok hsz hB hf hfb hfH hfF hFl
  by_cases hf0 : f ≤ 0
  · exact store_full_zero fb F s S (m + 1) t f cs H w hf0 hA hR hfb
  have hM : f.toNat * M = (f - 1).toNat * M + M := by rw [show f.toNat = (f - 1).toNat + 1 by omega, Nat.succ_mul]
  have hSB : (f.toNat : Int) * SB = ((f - 1).toNat : Int) * SB + SB := by
    rw [show f.toNat = (f - 1).toNat + 1 by omega]
    push_cast
    rw [Int.add_mul]
    omega
  have hf64 := hf
  unfold I64 at hf64
  obtain ⟨hfa, hfc⟩ := hf64
  have hw1 := IntWalk.i64_in (f - 1) (by omega)
  obtain ⟨g0, g1⟩ := blk_cell hfb
  have g2 := cell_lt hfb
  have HR := Lib.hid hR
  obtain ⟨a, cap, rfl, -, -, -, -⟩ := hR.open_
  have T0 : Ext (fun k => k = fb) H w H (w.setCell ⟨fb, 0, none⟩ (.int .i64 (f - 1))) := (Ext.refl (O := fun k => k = fb) hA).setCell (p := ⟨fb, 0, none⟩) hfH (fun _ => rfl) _
  have hsz0 : (w.setCell ⟨fb, 0, none⟩ (.int .i64 (f - 1))).heap.size = w.heap.size := by simp [World.setCell]
  have E0 := Lib.hid ((T0.alloc (tbox t a cap)).alloc zbox)
  have ST0 := hS.ext E0.out (fun k hk hF => by subst hk; exact hfF hF)
  have B0 : (((w.setCell ⟨fb, 0, none⟩ (.int .i64 (f - 1))).alloc (tbox t a cap)).alloc zbox).heap[w.heap.size]? = some (tbox t a cap) := Below.blk (below_alloc _ _) (heap_alloc_at _ _ _ hsz0.symm)
  have B1 : (((w.setCell ⟨fb, 0, none⟩ (.int .i64 (f - 1))).alloc (tbox t a cap)).alloc zbox).heap[w.heap.size + 1]? = some zbox := heap_alloc_at _ _ _ (by simp [hsz0])
  have B2 : (((w.setCell ⟨fb, 0, none⟩ (.int .i64 (f - 1))).alloc (tbox t a cap)).alloc zbox).heap[fb]? = some (.cells #[.int .i64 (f - 1)] 3 (0, 0)) := Below.blk (below_alloc _ _) (Below.blk (below_alloc _ _) (blk_set hfb))
  have B0 := Lib.hid B0
  have B1 := Lib.hid B1
  have B2 := Lib.hid B2
  have n0 := hA.free (Nat.le_refl w.heap.size)
  have n1 : H (w.heap.size + 1) = none := hA.free (by omega)
  have n2 := hfH
  have hhead := Lib.hid (store_head fb H _ s S M B t (f - 1) _ E0.out.agree ST0 HR.out hv hb hok (by omega) (by omega) (by unfold I64; omega) B2.out hfH hfF)
  have HOK := Lib.hid (fun h0 => St.head_ok (f := f - 1) hok hv hb (by omega) (by omega) h0)
  have hful := Lib.hid (show St.fullF S (m + 1) t f = _ from (by rw [St.fullF, if_neg hf0]))
  have HST0 := Lib.hid ST0
  have HFF := Lib.hid hfF
  have HFL := Lib.hid hFl
  have HOKS := Lib.hid hok
  have HSZ := Lib.hid (show t.size + (f - 1).toNat * M + M ≤ SB by omega)
  have HBB := Lib.hid (show B + (f - 1).toNat * SB + SB ≤ Tm.far by omega)
  have HM := Lib.hid (show (f - 1).toNat ≤ m by omega)
  clear hR hS hv hb hok hsz hB hf hfb hfH hfF hFl hM hSB T0 ST0 hA hfm
  generalize hHD : S.head t (f - 1) = hd at *
  obtain ⟨u, er, f1⟩ := hd
  dsimp only at hful HOK
  have HHD := Lib.hid hHD
  clear hHD
  go_enter Try.func34, Try.ntmps34
  go_wp2_with fail
  refine hhead.out.mono ?_
  unfold HeadPost
  rw [HHD.out]
  rintro e w1 ⟨H1, ucs, rfl, X1, R1, C1⟩
  dsimp only at R1 C1
  have HR1 := Lib.hid R1
  have HX1 := Lib.hid X1
  obtain ⟨ua, uc, rfl, -, -, -, hTu⟩ := R1.open_
  have HTU := Lib.hid hTu
  have z0 : w.heap.size < (((w.setCell ⟨fb, 0, none⟩ (.int .i64 (f - 1))).alloc (tbox t a cap)).alloc zbox).heap.size := cell_lt B0.out
  have z1 : w.heap.size + 1 < (((w.setCell ⟨fb, 0, none⟩ (.int .i64 (f - 1))).alloc (tbox t a cap)).alloc zbox).heap.size := cell_lt B1.out
  have z2 : fb < (((w.setCell ⟨fb, 0, none⟩ (.int .i64 (f - 1))).alloc (tbox t a cap)).alloc zbox).heap.size := cell_lt B2.out
  have D0 := Lib.hid ((X1.block w.heap.size z0 (by omega)).trans B0.out)
  have D1 := Lib.hid ((X1.block (w.heap.size + 1) z1 (by omega)).trans B1.out)
  have D2 := Lib.hid C1
  have k0 := (X1.old _ z0).trans n0
  have k1 := (X1.old _ z1).trans n1
  have k2 := (X1.old _ z2).trans n2
  have ST1E := Lib.hid X1.agree
  have ST1 := Lib.hid (HST0.out.ext X1 (fun k hk hF => by subst hk; exact HFF.out hF))
  have E1 := Lib.hid (E0.out.trans X1 (fun k hk _ => hk))
  clear hhead X1 C1 R1 z0 z1 z2 n0 n1 n2 g0 g1 hTu
  obtain ⟨p0, p1, p2, p3, p4, p5, p6, p7, p8⟩ := box4 D0.out
  obtain ⟨q0, q1, q2, q3, q4, q5, q6, q7, q8⟩ := box4 D1.out
  have E2 := Lib.hid (E1.out.store4 k0 (Nat.le_refl _) (.int .i64 u.k) (.string u.s) (.int .i64 u.n) (.slice ua u.l.length uc))
  have F0 := Lib.hid (blk_set4 (.int .i64 u.k) (.string u.s) (.int .i64 u.n) (.slice ua u.l.length uc) D0.out)
  have F1 := Lib.hid ((blk_far4 (k := w.heap.size + 1) (b := w.heap.size) (.int .i64 u.k) (.string u.s) (.int .i64 u.n) (.slice ua u.l.length uc) (by omega)).trans D1.out)
  have F2 := Lib.hid ((blk_far4 (k := fb) (b := w.heap.size) (.int .i64 u.k) (.string u.s) (.int .i64 u.n) (.slice ua u.l.length uc) (by omega)).trans D2.out)
  by_cases her : er = 0
  · subst her
    rw [if_neg (by simp)] at hful
    have hk := HOK.out rfl
    have hkv := hk.v
    have hks := hk.sz
    have hkb := hk.b
    have hkl := hk.le
    have hkn := hk.nn (by omega)
    rw [HHD.out] at hkv hks hkb hkl hkn
    dsimp only at hkv hks hkb hkl hkn
    have hlu : u.l.length < u.size := by cases u with | mk k s n l => exact Tm.length_lt k s n l
    have hslu : Tm.sizeL u.l < u.size := by cases u with | mk k s n l => rw [Tm.size_mk]; simp only [Tm.l_mk]; omega
    have hz := HSZ.out
    have hsb := St.toNat_sub_mul (f - 1).toNat f1.toNat (by omega) SB
    have hbb := HBB.out
    have hM1 := Nat.zero_le (f1.toNat * M)
    have hss : SB = 1073741824 := rfl
    have hcl := Lib.hid (slices_Clone H1 ((((w1.setCell ⟨w.heap.size, 0, none⟩ (.int .i64 u.k)).setCell ⟨w.heap.size, 1, none⟩ (.string u.s)).setCell ⟨w.heap.size, 2, none⟩ (.int .i64 u.n)).setCell ⟨w.heap.size, 3, none⟩ (.slice ua u.l.length uc)) E2.out.agree _ u.l HTU.out (by omega))
    have hkids : ∀ x ∈ u.l, x.valid = true ∧ x.bnd (B + ((f - 1).toNat - f1.toNat : Nat) * SB) = true := by
      intro x hx
      cases u with
      | mk k s n l => exact ⟨((Tm.valid_iff ..).1 hkv).2 x hx, ((Tm.bnd_iff ..).1 hkb).2 x hx⟩
    have hu6 : u.k = 6 → 2 ≤ u.l.length := by
      intro h6
      cases u with
      | mk k s n l => simp only [Tm.k_mk] at h6; subst h6; exact (Tm.ok1_app.1 ((Tm.valid_iff ..).1 hkv).1).2.2.1
    have hB' : B + ((f - 1).toNat - f1.toNat : Nat) * SB + f1.toNat * SB + SB ≤ Tm.far := by omega
    have hok' : S.Ok M (B + ((f - 1).toNat - f1.toNat : Nat) * SB) := HOKS.out.mono (by have : (0 : Int) ≤ ((f - 1).toNat - f1.toNat : Nat) * SB := Int.mul_nonneg (by omega) (by omega); omega)
    generalize B + ((f - 1).toNat - f1.toNat : Nat) * SB = B' at hkids hB' hok'
    have HGOOD := Lib.hid (fun n (hn : n ≤ m) (hb : B' + n * SB ≤ Tm.far) => St.full_fit S M m B' n hn hok' hb)
    have HK := Lib.hid hkids
    have HU6 := Lib.hid hu6
    have HBf := Lib.hid hB'
    have HSL := Lib.hid (show Tm.sizeL u.l + f1.toNat * M + M ≤ SB by omega)
    have HF1 := Lib.hid (show 0 ≤ f1 ∧ f1.toNat ≤ m ∧ I64 f1 by have := HM.out; unfold I64; omega)
    have HLU := Lib.hid (show u.l.length ≤ 1073741824 by omega)
    have HFD := Lib.hid (blk_cells F0.out 3).1
    have hsz2 : ((((w1.setCell ⟨w.heap.size, 0, none⟩ (.int .i64 u.k)).setCell ⟨w.heap.size, 1, none⟩ (.string u.s)).setCell ⟨w.heap.size, 2, none⟩ (.int .i64 u.n)).setCell ⟨w.heap.size, 3, none⟩ (.slice ua u.l.length uc)).heap.size = w1.heap.size := size_set4 _ _ _ _ _ _
    have HS2 := Lib.hid hsz2
    have hok'' := Lib.hid hok'
    clear hk hkv hks hkb hkl hkn hlu hslu hz hsb hbb hM1 hss hkids hu6 hB' hok' hsz2
    have hp0 := Lib.hid p0
    have HB1 := Lib.hid (show w.heap.size + 1 < w1.heap.size ∧ fb < w1.heap.size from ⟨q0, cell_lt D2.out⟩)
    go_wp2_with fail
    refine hcl.out.mono ?_
    rintro e w3 ⟨v, rfl, own3, hb3⟩
    rw [HS2.out] at own3
    have G0 := Lib.hid (Below.blk hb3 F0.out)
    have G1 := Lib.hid (Below.blk hb3 F1.out)
    have G2 := Lib.hid (Below.blk hb3 F2.out)
    have E3 := Lib.hid (E2.out.then_below hb3)
    have ST3 : StAt H1 w3 F s S := by
      have T : Ext (fun k => k = w.heap.size) H1 w1 H1 ((((w1.setCell ⟨w.heap.size, 0, none⟩ (.int .i64 u.k)).setCell ⟨w.heap.size, 1, none⟩ (.string u.s)).setCell ⟨w.heap.size, 2, none⟩ (.int .i64 u.n)).setCell ⟨w.heap.size, 3, none⟩ (.slice ua u.l.length uc)) := ((((Ext.refl (O := fun k => k = w.heap.size) ST1E.out).setCell (p := ⟨w.heap.size, 0, none⟩) k0 (fun _ => rfl) _).setCell (p := ⟨w.heap.size, 1, none⟩) k0 (fun _ => rfl) _).setCell (p := ⟨w.heap.size, 2, none⟩) k0 (fun _ => rfl) _).setCell (p := ⟨w.heap.size, 3, none⟩) k0 (fun _ => rfl) _
      exact (ST1.out.ext T (fun k hk hF => by subst hk; have := HFL.out _ hF; omega)).below T.agree hb3
    obtain ⟨va, vc, rfl, hvl, hvm⟩ := own3.form
    have HOWN := Lib.hid own3
    clear p0 p1 p2 p3 p4 p5 p6 p7 p8 q0 q1 q2 q3 q4 q5 q6 q7 q8 hcl own3
    go_wp2_with fail
    have hN64 : (u.l.length : Int) ≤ 1073741824 := by have := HLU.out; omega
    go_loopw [37] (fun i wr => FullRel fb F s S M m w1.heap.size H w u ua uc (St.kidsF (St.fullF S m) u f1) f1 B' (.slice va u.l.length vc) i wr) (fun i _ => u.l.length - (intOf i).toNat)
    case atStart =>
      obtain ⟨y1, y2, y3⟩ := HF1.out
      refine ⟨0, H1, [], f1, Nat.zero_le _, rfl, rfl, ?_, by simpa using HK.out, by simpa using HSL.out, HBf.out, y1, y2, y3, E3.out, by simpa using HOWN.out, G0.out, G1.out, G2.out, ST3, k0, k1, k2⟩
      by_cases h6 : u.k = 6
      · exact .inl ⟨h6, rfl, rfl⟩
      · exact .inr ⟨by unfold St.kidsF; rw [if_neg h6]; rfl, fun h => absurd h h6⟩
    case round =>
      obtain ⟨j, Hc, acc, f', hj, rfl, ha, hR, hK, hZ, hB2, hf0', hfm', hf64', EC, own, C0, C1, C2, SC, n0, n1, n2⟩ := hrel
      have HSC := Lib.hid SC
      have HEC := Lib.hid EC
      have HC0 := Lib.hid C0
      have HC1 := Lib.hid C1
      have HC2 := Lib.hid C2
      have HHR := Lib.hid hR
      obtain ⟨p0, p1, p2, p3, p4, p5, p6, p7, p8⟩ := box4 C0
      obtain ⟨q0, q1, q2, q3, q4, q5, q6, q7, q8⟩ := box4 C1
      have g2 := cell_lt C2
      have HWR := Lib.hid EC.size
      by_cases hlt : j < u.l.length
      · obtain ⟨x, hx⟩ : ∃ x, u.l[j]? = some x := ⟨_, List.getElem?_eq_getElem hlt⟩
        have hdr : u.l.drop j = x :: u.l.drop (j + 1) := by
          rw [List.drop_eq_getElem_cons hlt]
          rw [List.getElem?_eq_getElem hlt] at hx
          injection hx with hx
          rw [hx]
        by_cases h60 : u.k = 6 ∧ j = 0
        · obtain ⟨h6, rfl⟩ := h60
          have hff : f' = f1 := by
            rcases hR with h | h
            · exact h.2.2
            · exact absurd (h.2 h6) (by omega)
          have hacc : acc = [] := List.eq_nil_of_length_eq_zero ha
          subst hacc; subst hff
          have b6 : (u.k == 6) = true := beq_iff_eq.2 h6
          have HDR := Lib.hid hdr
          have HKK := Lib.hid hK
          have HZZ := Lib.hid hZ
          have HOW := Lib.hid own
          clear hR hdr hK hZ own SC EC C0 C1 C2 hx
          go_wp2_with fail
          go_roundw
          case rel =>
            have e1 : u.l.take 1 ++ u.l.drop 1 = [] ++ u.l.drop 0 := by rw [List.take_append_drop]; rfl
            refine ⟨1, Hc, u.l.take 1, f', by omega, by go_num, by rw [List.length_take]; omega, .inr ⟨by unfold St.kidsF; rw [if_pos h6], fun _ => by omega⟩, fun y hy => HKK.out y (by rw [HDR.out]; exact List.mem_cons_of_mem _ hy), ?_, hB2, hf0', hfm', hf64', HEC.out, by rw [e1]; exact HOW.out, HC0.out, HC1.out, HC2.out, HSC.out, n0, n1, n2⟩
            have := HZZ.out
            rw [HDR.out, Tm.sizeL_cons] at this
            simp only [Nat.zero_add] at this
            omega
          case measure => simp [intOf]; omega
        · have hR2 : St.kidsF (St.fullF S m) u f1 = St.mapF (St.fullF S m) acc (u.l.drop j) f' := by
            rcases hR with h | h
            · exact absurd ⟨h.1, h.2.1⟩ h60
            · exact h.1
          have hb6 : (u.k == 6) = false ∨ ((u.k == 6) = true ∧ ((j : Int) == 0) = false ∧ ¬ j = 0) := by
            by_cases h6 : u.k = 6
            · exact .inr ⟨beq_iff_eq.2 h6, by rw [beq_eq_false_iff_ne]; have := fun e => h60 ⟨h6, e⟩; omega, fun e => h60 ⟨h6, e⟩⟩
            · exact .inl (beq_eq_false_iff_ne.2 h6)
          rw [hdr, St.mapF] at hR2
          rw [hdr, Tm.sizeL_cons] at hZ
          have hx0 := hK x (by rw [hdr]; simp)
          have hgx : (acc ++ u.l.drop j)[j]? = some x := by rw [hdr, ← ha, List.getElem?_append_right (Nat.le_refl _)]; simp
          obtain ⟨g, gc, xcs, hv, hgb, hRx, hcell, hfz, hgl, hgm, hgw⟩ := own.get (fun _ _ h => h.len) hgx
          injection hv with hv1 hv2 hv3
          subst hv1; subst hv3
          have HV2 := Lib.hid hv2
          clear hv2
          have hcall := Lib.hid (ih x f' B' xcs Hc wr hfm' EC.agree SC hRx hx0.1 hx0.2 hok''.out (by omega) hB2 hf64' C2 n2 HFF.out (fun k hk => Nat.lt_of_lt_of_le (HFL.out k hk) EC.size))
          have HG := Lib.hid (fun h0 => HGOOD.out f'.toNat hfm' (by omega) x f' (Nat.le_refl _) hx0.1 hx0.2 (by omega) h0)
          obtain ⟨xa, xc, rfl, -, -, -, -⟩ := hRx.open_
          have d0 := hcell 0 _ rfl
          have d1 := hcell 1 _ rfl
          have d2 := hcell 2 _ rfl
          have d3 := hcell 3 _ rfl
          simp only [Nat.add_zero] at d0
          have HR2 := Lib.hid hR2
          have HZZ := Lib.hid hZ
          have HDR := Lib.hid hdr
          have HKK := Lib.hid hK
          have HOW := Lib.hid own
          clear hR hR2 hdr hK hZ own SC EC C0 C1 C2 hx hgx h60 hx0 hcell hRx hfz
          have HB := Lib.hid (show fb < g ∧ w.heap.size + 1 < g ∧ w.heap.size + 1 < w1.heap.size from ⟨by have := HB1.out; omega, by have := HB1.out; omega, HB1.out.1⟩)
          have HGF := Lib.hid (show ¬ F g from fun h => by have := HFL.out g h; have := HB.out; omega)
          rcases hb6 with b6 | ⟨b6, bj, bj'⟩
          · skip
            go_wp2_with fail
            refine hcall.out.mono ?_
            unfold FullPost
            generalize hgr : St.fullF S m x f' = r at *
            obtain ⟨r1, er, f2⟩ := r
            dsimp only at HG HR2
            rintro e w4 ⟨H4, rcs, rfl, X4, R4, C4⟩
            dsimp only at R4 C4
            have own4 := (HOW.out.ext X4 (fun k hk e => by have := (HOW.out.lt k hk).1; have := HB.out; omega) (fun _ _ h => h.mono X4.sub))
            have HR4 := Lib.hid R4
            obtain ⟨ra, rc, rfl, -, -, -, -⟩ := R4.open_
            have hgx4 : (acc ++ u.l.drop j)[j]? = some x := by rw [HDR.out, ← ha, List.getElem?_append_right (Nat.le_refl _)]; simp
            obtain ⟨g', gc', ycs, hv', -, hRy, hcell4, hfz4, -, -, hgw4⟩ := own4.get (fun _ _ h => h.len) hgx4
            injection hv' with hv1' hv2' hv3'
            injection hv1' with hv1'
            injection hv1' with hv1'
            subst hv1'
            clear hv2' hv3'
            obtain ⟨ya, yc, rfl, -, -, -, -⟩ := hRy.open_
            have D0 := Lib.hid ((X4.block w.heap.size p0 (by omega)).trans HC0.out)
            have D1 := Lib.hid ((X4.block (w.heap.size + 1) q0 (by omega)).trans HC1.out)
            have D2 := Lib.hid C4
            have m0 := (X4.old _ p0).trans n0
            have m1 := (X4.old _ q0).trans n1
            have m2 := (X4.old _ g2).trans n2
            have mg : H4 g = none := own4.free g rfl
            have SC4 := Lib.hid (HSC.out.ext X4 (fun k hk hF => by subst hk; exact HFF.out hF))
            have E4 := Lib.hid (HEC.out.trans X4 (fun k hk _ => hk))
            have OW4 := Lib.hid own4
            have HX4 := Lib.hid X4.agree
            clear p0 p1 p2 p3 p4 p5 p6 p7 p8 q0 q1 q2 q3 q4 q5 q6 q7 q8 g2 d0 d1 d2 d3 hcall X4 R4 C4 own4 hgx4 n0 n1 n2
            have y0 := hcell4 0 _ rfl
            have y1 := hcell4 1 _ rfl
            have y2 := hcell4 2 _ rfl
            have y3 := hcell4 3 _ rfl
            simp only [Nat.add_zero] at y0
            have x0 := hfz4 (j * 4)
            have x1 := hfz4 (j * 4 + 1)
            have x2 := hfz4 (j * 4 + 2)
            have x3 := hfz4 (j * 4 + 3)
            have O5 : Own H4 ((((w4.setCell ⟨g, j * 4, none⟩ (.int .i64 r1.k)).setCell ⟨g, j * 4 + 1, none⟩ (.string r1.s)).setCell ⟨g, j * 4 + 2, none⟩ (.int .i64 r1.n)).setCell ⟨g, j * 4 + 3, none⟩ (.slice ra r1.l.length rc)) w1.heap.size 30 4 (Rep H4) (.slice (some ⟨g, 0, none⟩) u.l.length vc) ((acc ++ [r1]) ++ u.l.drop (j + 1)) := by
              have := OW4.out.set rfl (i := j) (by rw [List.length_append, ha]; rw [HDR.out]; simp) (y := r1) (vs := [.int .i64 r1.k, .string r1.s, .int .i64 r1.n, .slice ra r1.l.length rc]) rfl HR4.out
              rw [setRow4] at this
              rw [← set_mid acc x r1 (u.l.drop (j + 1)) j ha, ← HDR.out]
              exact this
            have T5 : Ext (fun k => k = fb) H w H4 ((((w4.setCell ⟨g, j * 4, none⟩ (.int .i64 r1.k)).setCell ⟨g, j * 4 + 1, none⟩ (.string r1.s)).setCell ⟨g, j * 4 + 2, none⟩ (.int .i64 r1.n)).setCell ⟨g, j * 4 + 3, none⟩ (.slice ra r1.l.length rc)) := (((E4.out.setCell (p := ⟨g, j * 4, none⟩) mg (fun h => absurd h (by have := HB.out; simp; omega)) _).setCell (p := ⟨g, j * 4 + 1, none⟩) mg (fun h => absurd h (by have := HB.out; simp; omega)) _).setCell (p := ⟨g, j * 4 + 2, none⟩) mg (fun h => absurd h (by have := HB.out; simp; omega)) _).setCell (p := ⟨g, j * 4 + 3, none⟩) mg (fun h => absurd h (by have := HB.out; simp; omega)) _
            have far5 : ∀ k, k ≠ g → ((((w4.setCell ⟨g, j * 4, none⟩ (.int .i64 r1.k)).setCell ⟨g, j * 4 + 1, none⟩ (.string r1.s)).setCell ⟨g, j * 4 + 2, none⟩ (.int .i64 r1.n)).setCell ⟨g, j * 4 + 3, none⟩ (.slice ra r1.l.length rc)).heap[k]? = w4.heap[k]? := fun k hk => by
              have := setRow_far (g := g) hk [.int .i64 r1.k, .string r1.s, .int .i64 r1.n, .slice ra r1.l.length rc] w4 (j * 4)
              rw [setRow4] at this
              exact this
            have HO5 := Lib.hid O5
            have HT5 := Lib.hid T5
            have G0 := Lib.hid ((far5 w.heap.size (by have := HB.out; omega)).trans D0.out)
            have G1 := Lib.hid ((far5 (w.heap.size + 1) (by have := HB.out; omega)).trans D1.out)
            have G2 := Lib.hid ((far5 fb (by have := HB.out; omega)).trans D2.out)
            clear O5 T5 far5
            obtain ⟨q0, q1, q2, q3, q4, q5, q6, q7, q8⟩ := box4 D1.out
            by_cases her : er = 0
            · subst her
              rw [if_neg (by simp)] at HR2
              obtain ⟨a1, a2, a3, a4, a5⟩ := HG.out rfl
              have hmul := Nat.mul_le_mul_right M (show f2.toNat ≤ f'.toNat by omega)
              have hmul2 : (f2.toNat : Int) * SB ≤ f'.toNat * SB := Int.mul_le_mul_of_nonneg_right (by omega) (by omega)
              have BU1 := Lib.hid (show Tm.sizeL (u.l.drop (j + 1)) + f2.toNat * M + M ≤ SB by have := HZZ.out; omega)
              have BU2 := Lib.hid (show B' + f2.toNat * SB + SB ≤ Tm.far by omega)
              have BU3 := Lib.hid (show 0 ≤ f2 ∧ f2.toNat ≤ m ∧ I64 f2 by unfold I64 at hf64' ⊢; omega)
              clear a1 a2 a3 a4 a5 hmul hmul2
              go_wp2_with fail
              go_roundw
              case rel =>
                have SC5 := ((SC4.out).heapF (F := F) HX4.out mg HGF.out (.int .i64 r1.k) (.string r1.s) (.int .i64 r1.n) (.slice ra r1.l.length rc) (j * 4))
                rw [setRow4] at SC5
                exact ⟨j + 1, H4, acc ++ [r1], f2, by omega, by go_num, by simp [ha], .inr ⟨HR2.out, fun _ => by omega⟩, fun y hy => HKK.out y (by rw [HDR.out]; exact List.mem_cons_of_mem _ hy), BU1.out, BU2.out, BU3.out.1, BU3.out.2.1, BU3.out.2.2, HT5.out, HO5.out, G0.out, G1.out, G2.out, SC5, m0, m1, m2⟩
              case measure => simp [intOf]; omega
            · rw [if_pos her] at HR2
              have her' : (er != 0) = true := by rw [bne_iff_ne]; exact her
              have hout : Hid (St.fullF S (m + 1) t f = (Tm.zero, er, f2)) := Lib.hid (by rw [hful.out, HR2.out, if_pos her])
              have q0' : w.heap.size + 1 ≠ g := by have := HB.out; omega
              obtain ⟨q0, q1, q2, q3, q4, q5, q6, q7, q8⟩ := box4 G1.out
              have E5 := Lib.hid (HT5.out.store4 m1 (by omega) (.int .i64 0) (.string ⟨#[]⟩) (.int .i64 0) (.slice none 0 0))
              have G2' := Lib.hid ((blk_far4 (k := fb) (b := w.heap.size + 1) (.int .i64 0) (.string ⟨#[]⟩) (.int .i64 0) (.slice none 0 0) (by omega)).trans G2.out)
              go_wp2_with fail
              refine bodyPost_ret (v := .tuple #[.agg #[.int .i64 0, .string ⟨#[]⟩, .int .i64 0, .slice none 0 0], .int .i64 er]) (by simp [results, Try.results34, go_sem, q0, q1, q2, q3, q4]) rfl ?_
              rw [hout.out]
              exact ⟨H4, _, rfl, E5.out, rep_zero H4, G2'.out⟩
          · skip
            go_wp2_with fail
            refine hcall.out.mono ?_
            unfold FullPost
            generalize hgr : St.fullF S m x f' = r at *
            obtain ⟨r1, er, f2⟩ := r
            dsimp only at HG HR2
            rintro e w4 ⟨H4, rcs, rfl, X4, R4, C4⟩
            dsimp only at R4 C4
            have own4 := (HOW.out.ext X4 (fun k hk e => by have := (HOW.out.lt k hk).1; have := HB.out; omega) (fun _ _ h => h.mono X4.sub))
            have HR4 := Lib.hid R4
            obtain ⟨ra, rc, rfl, -, -, -, -⟩ := R4.open_
            have hgx4 : (acc ++ u.l.drop j)[j]? = some x := by rw [HDR.out, ← ha, List.getElem?_append_right (Nat.le_refl _)]; simp
            obtain ⟨g', gc', ycs, hv', -, hRy, hcell4, hfz4, -, -, hgw4⟩ := own4.get (fun _ _ h => h.len) hgx4
            injection hv' with hv1' hv2' hv3'
            injection hv1' with hv1'
            injection hv1' with hv1'
            subst hv1'
            clear hv2' hv3'
            obtain ⟨ya, yc, rfl, -, -, -, -⟩ := hRy.open_
            have D0 := Lib.hid ((X4.block w.heap.size p0 (by omega)).trans HC0.out)
            have D1 := Lib.hid ((X4.block (w.heap.size + 1) q0 (by omega)).trans HC1.out)
            have D2 := Lib.hid C4
            have m0 := (X4.old _ p0).trans n0
            have m1 := (X4.old _ q0).trans n1
            have m2 := (X4.old _ g2).trans n2
            have mg : H4 g = none := own4.free g rfl
            have SC4 := Lib.hid (HSC.out.ext X4 (fun k hk hF => by subst hk; exact HFF.out hF))
            have E4 := Lib.hid (HEC.out.trans X4 (fun k hk _ => hk))
            have OW4 := Lib.hid own4
            have HX4 := Lib.hid X4.agree
            clear p0 p1 p2 p3 p4 p5 p6 p7 p8 q0 q1 q2 q3 q4 q5 q6 q7 q8 g2 d0 d1 d2 d3 hcall X4 R4 C4 own4 hgx4 n0 n1 n2
            have y0 := hcell4 0 _ rfl
            have y1 := hcell4 1 _ rfl
            have y2 := hcell4 2 _ rfl
            have y3 := hcell4 3 _ rfl
            simp only [Nat.add_zero] at y0
            have x0 := hfz4 (j * 4)
            have x1 := hfz4 (j * 4 + 1)
            have x2 := hfz4 (j * 4 + 2)
            have x3 := hfz4 (j * 4 + 3)
            have O5 : Own H4 ((((w4.setCell ⟨g, j * 4, none⟩ (.int .i64 r1.k)).setCell ⟨g, j * 4 + 1, none⟩ (.string r1.s)).setCell ⟨g, j * 4 + 2, none⟩ (.int .i64 r1.n)).setCell ⟨g, j * 4 + 3, none⟩ (.slice ra r1.l.length rc)) w1.heap.size 30 4 (Rep H4) (.slice (some ⟨g, 0, none⟩) u.l.length vc) ((acc ++ [r1]) ++ u.l.drop (j + 1)) := by
              have := OW4.out.set rfl (i := j) (by rw [List.length_append, ha]; rw [HDR.out]; simp) (y := r1) (vs := [.int .i64 r1.k, .string r1.s, .int .i64 r1.n, .slice ra r1.l.length rc]) rfl HR4.out
              rw [setRow4] at this
              rw [← set_mid acc x r1 (u.l.drop (j + 1)) j ha, ← HDR.out]
              exact this
            have T5 : Ext (fun k => k = fb) H w H4 ((((w4.setCell ⟨g, j * 4, none⟩ (.int .i64 r1.k)).setCell ⟨g, j * 4 + 1, none⟩ (.string r1.s)).setCell ⟨g, j * 4 + 2, none⟩ (.int .i64 r1.n)).setCell ⟨g, j * 4 + 3, none⟩ (.slice ra r1.l.length rc)) := (((E4.out.setCell (p := ⟨g, j * 4, none⟩) mg (fun h => absurd h (by have := HB.out; simp; omega)) _).setCell (p := ⟨g, j * 4 + 1, none⟩) mg (fun h => absurd h (by have := HB.out; simp; omega)) _).setCell (p := ⟨g, j * 4 + 2, none⟩) mg (fun h => absurd h (by have := HB.out; simp; omega)) _).setCell (p := ⟨g, j * 4 + 3, none⟩) mg (fun h => absurd h (by have := HB.out; simp; omega)) _
            have far5 : ∀ k, k ≠ g → ((((w4.setCell ⟨g, j * 4, none⟩ (.int .i64 r1.k)).setCell ⟨g, j * 4 + 1, none⟩ (.string r1.s)).setCell ⟨g, j * 4 + 2, none⟩ (.int .i64 r1.n)).setCell ⟨g, j * 4 + 3, none⟩ (.slice ra r1.l.length rc)).heap[k]? = w4.heap[k]? := fun k hk => by
              have := setRow_far (g := g) hk [.int .i64 r1.k, .string r1.s, .int .i64 r1.n, .slice ra r1.l.length rc] w4 (j * 4)
              rw [setRow4] at this
              exact this
            have HO5 := Lib.hid O5
            have HT5 := Lib.hid T5
            have G0 := Lib.hid ((far5 w.heap.size (by have := HB.out; omega)).trans D0.out)
            have G1 := Lib.hid ((far5 (w.heap.size + 1) (by have := HB.out; omega)).trans D1.out)
            have G2 := Lib.hid ((far5 fb (by have := HB.out; omega)).trans D2.out)
            clear O5 T5 far5
            obtain ⟨q0, q1, q2, q3, q4, q5, q6, q7, q8⟩ := box4 D1.out
            by_cases her : er = 0
            · subst her
              rw [if_neg (by simp)] at HR2
              obtain ⟨a1, a2, a3, a4, a5⟩ := HG.out rfl
              have hmul := Nat.mul_le_mul_right M (show f2.toNat ≤ f'.toNat by omega)
              have hmul2 : (f2.toNat : Int) * SB ≤ f'.toNat * SB := Int.mul_le_mul_of_nonneg_right (by omega) (by omega)
              have BU1 := Lib.hid (show Tm.sizeL (u.l.drop (j + 1)) + f2.toNat * M + M ≤ SB by have := HZZ.out; omega)
              have BU2 := Lib.hid (show B' + f2.toNat * SB + SB ≤ Tm.far by omega)
              have BU3 := Lib.hid (show 0 ≤ f2 ∧ f2.toNat ≤ m ∧ I64 f2 by unfold I64 at hf64' ⊢; omega)
              clear a1 a2 a3 a4 a5 hmul hmul2
              go_wp2_with fail
              go_roundw
              case rel =>
                have SC5 := ((SC4.out).heapF (F := F) HX4.out mg HGF.out (.int .i64 r1.k) (.string r1.s) (.int .i64 r1.n) (.slice ra r1.l.length rc) (j * 4))
                rw [setRow4] at SC5
                exact ⟨j + 1, H4, acc ++ [r1], f2, by omega, by go_num, by simp [ha], .inr ⟨HR2.out, fun _ => by omega⟩, fun y hy => HKK.out y (by rw [HDR.out]; exact List.mem_cons_of_mem _ hy), BU1.out, BU2.out, BU3.out.1, BU3.out.2.1, BU3.out.2.2, HT5.out, HO5.out, G0.out, G1.out, G2.out, SC5, m0, m1, m2⟩
              case measure => simp [intOf]; omega
            · rw [if_pos her] at HR2
              have her' : (er != 0) = true := by rw [bne_iff_ne]; exact her
              have hout : Hid (St.fullF S (m + 1) t f = (Tm.zero, er, f2)) := Lib.hid (by rw [hful.out, HR2.out, if_pos her])
              have q0' : w.heap.size + 1 ≠ g := by have := HB.out; omega
              obtain ⟨q0, q1, q2, q3, q4, q5, q6, q7, q8⟩ := box4 G1.out
              have E5 := Lib.hid (HT5.out.store4 m1 (by omega) (.int .i64 0) (.string ⟨#[]⟩) (.int .i64 0) (.slice none 0 0))
              have G2' := Lib.hid ((blk_far4 (k := fb) (b := w.heap.size + 1) (.int .i64 0) (.string ⟨#[]⟩) (.int .i64 0) (.slice none 0 0) (by omega)).trans G2.out)
              go_wp2_with fail
              refine bodyPost_ret (v := .tuple #[.agg #[.int .i64 0, .string ⟨#[]⟩, .int .i64 0, .slice none 0 0], .int .i64 er]) (by simp [results, Try.results34, go_sem, q0, q1, q2, q3, q4]) rfl ?_
              rw [hout.out]
              exact ⟨H4, _, rfl, E5.out, rep_zero H4, G2'.out⟩
      · have hje : j = u.l.length := by omega
        have hjd : u.l.drop j = [] := List.drop_eq_nil_of_le (by omega)
        have hR2 : St.kidsF (St.fullF S m) u f1 = (acc, 0, f') := by
          rcases hR with h | h
          · have := HU6.out h.1; omega
          · rw [h.1, hjd]; rfl
        rw [hjd, List.append_nil] at own
        obtain ⟨H5, E5, hs5, ho5, hT5⟩ := own.freeze_ext EC (by have := HB1.out; omega) (fun _ _ h => h.len)
        have hT5 : Tms H5 _ acc := Sl.mono (Sub.refl _) (fun _ _ _ h => Rep.mono hs5 h) hT5
        have hout : Hid (St.fullF S (m + 1) t f = (.mk u.k u.s u.n acc, 0, f')) := Lib.hid (by rw [hful.out, hR2, if_neg (by simp)])
        have m0 : H5 w.heap.size = none := (ho5 _ (by have := HB1.out; omega)).trans n0
        have m1 : H5 (w.heap.size + 1) = none := (ho5 _ (by have := HB1.out; omega)).trans n1
        have hal : acc.length = u.l.length := by omega
        rw [← hal] at hT5
        have HT5 := Lib.hid hT5
        obtain ⟨-, -, -, hu1, hu2, hu3, -⟩ := HR1.out.open_
        have hrep := Rep.shut hu1 hu2 hu3 hT5
        have HREP := Lib.hid hrep
        have E6 := Lib.hid (E5.setCell (p := ⟨w.heap.size, 3, none⟩) m0 (fun h => absurd h (by simp)) (.slice va u.l.length vc))
        have Z1 : (wr.setCell ⟨w.heap.size, 3, none⟩ (.slice va u.l.length vc)).heap[w.heap.size + 1]? = some zbox := (Below.heap_setCell wr ⟨w.heap.size, 3, none⟩ _ (w.heap.size + 1) (by simp)).trans C1
        have Z2 : (wr.setCell ⟨w.heap.size, 3, none⟩ (.slice va u.l.length vc)).heap[fb]? = some (.cells #[.int .i64 f'] 3 (0, 0)) := (Below.heap_setCell wr ⟨w.heap.size, 3, none⟩ _ fb (by simp; omega)).trans C2
        have E7 := Lib.hid (E6.out.store4 m1 (by omega) (.int .i64 u.k) (.string u.s) (.int .i64 u.n) (.slice va u.l.length vc))
        have Z3 := Lib.hid ((blk_far4 (k := fb) (b := w.heap.size + 1) (.int .i64 u.k) (.string u.s) (.int .i64 u.n) (.slice va u.l.length vc) (by omega)).trans Z2)
        clear own hT5 hrep hR hK hZ hjd HHR E5 hs5 ho5 Z1 Z2 hal
        subst hje
        go_wp2_with fail
        refine bodyPost_ret (v := .tuple #[.agg #[.int .i64 u.k, .string u.s, .int .i64 u.n, .slice va u.l.length vc], .int .i64 0]) (by simp [results, Try.results34, go_sem, p0, p1, p2, p3, p4, q0, q1, q2, q3, q4]) rfl ?_
        rw [hout.out]
        exact ⟨H5, _, rfl, E7.out, by simpa [ha] using HREP.out, Z3.out⟩
  · have her' : (er != 0) = true := by rw [bne_iff_ne]; exact her
    have hout : Hid (St.fullF S (m + 1) t f = (Tm.zero, er, f1)) := Lib.hid (by rw [hful.out, if_pos her])
    have E3 := Lib.hid (E2.out.store4 k1 (by omega) (.int .i64 0) (.string ⟨#[]⟩) (.int .i64 0) (.slice none 0 0))
    go_wp2_with fail
    refine bodyPost_ret (v := (.tuple #[.agg #[.int .i64 0, .string ⟨#[]⟩, .int .i64 0, .slice none 0 0], .int .i64 er])) (by simp [results, Try.results34, go_sem, q0, q1, q2, q3, q4]) rfl ?_
    rw [hout.out]
    exact ⟨H1, _, rfl, E3.out, rep_zero H1, (blk_far4 _ _ _ _ (by omega)).trans F2.out⟩
theorem store_full_at (fb : Nat) (F : Nat → Prop) (s : Nat) (S : St) (M : Nat) : ∀ m, FullAt fb F s S M m
  | 0 => fun t f _ cs H w hf hA _ hR _ _ _ _ _ _ hfb _ _ _ => store_full_zero fb F s S 0 t f cs H w (by omega) hA hR hfb
  | m + 1 => store_full_succ fb F s S M m (store_full_at fb F s S M m)
/-- store.full. -/
theorem store_full {F : Nat → Prop} (fb : Nat) (H : GH) (w : World) (s : Nat) (S : St) (M : Nat) (B : Int) (t : Tm) (f : Int) (cs : List Value) (hA : Agree H w) (hS : StAt H w F s S) (hR : Rep H t cs) (hv : t.valid = true) (hb : t.bnd B = true) (hok : S.Ok M B) (hsz : t.size + f.toNat * M + M ≤ SB) (hB : B + f.toNat * SB + SB ≤ Tm.far) (hf : I64 f)
    (hfb : w.heap[fb]? = some (.cells #[.int .i64 f] 3 (0, 0))) (hfH : H fb = none) (hfF : ¬ F fb) :
    Calls Try.prog 34 #[.pointer (some ⟨s, 0, none⟩), .agg cs.toArray, .pointer (some ⟨fb, 0, none⟩)] w (FullPost fb H w (S.full t f)) :=
  store_full_at fb _ s S M f.toNat t f B cs H w (Nat.le_refl _) hA hS.tight hR hv hb hok hsz hB hf hfb hfH (fun h => hfF h.1) (fun _ h => h.2)
end Go.Proofs.Ytbdappbmlnpogaa
namespace Go.Proofs.Ytbdappbmlnpogaa
open Go Go.RowKit
set_option maxRecDepth 100000
/-- What run is asked of the function that it is given. -/
def RunPost (H : GH) (w : World) (r : Tm × Int × Int) (e : Ending) (w' : World) : Prop :=
  ∃ H' cs', e = .returned (.tuple #[.agg cs'.toArray, .int .i64 r.2.1, .int .i64 r.2.2]) ∧ Pure H w H' w' ∧ Rep H' r.1 cs'
set_option maxHeartbeats 4000000 in
/-- store.run: the function that it is given is fn, bound to the store. -/
theorem store_run (fn : FuncId) (s : Nat) (g : Tm → Int → Tm × Int × Int) (H : GH) (w : World) (t : Tm) (f : Int) (cs : List Value) (hA : Agree H w) (hR : Rep H t cs)
    (hfn : ∀ args w, (callFunc fn args).run Try.prog w = .ok (.enter fn args) w)
    (hg : t.valid = true → ∀ (fb : Nat) (W : World), w.heap.size ≤ fb → Pure H w H W → W.heap[fb]? = some (.cells #[.int .i64 f] 3 (0, 0)) → H fb = none →
      Calls Try.prog fn #[.pointer (some ⟨s, 0, none⟩), .agg cs.toArray, .pointer (some ⟨fb, 0, none⟩)] W (FullPost fb H W (g t f))) :
    Calls Try.prog 33 #[.agg cs.toArray, .int .i64 f, .func (.func fn) #[.pointer (some ⟨s, 0, none⟩)] #[]] w (RunPost H w (St.runV g t f)) := by
  have h1 := Lib.hid (fun W hW => term_Valid t cs H W hR hW)
  obtain ⟨a, cap, rfl, -, -, -, -⟩ := hR.open_
  have E0 := Lib.hid ((((Ext.refl (O := fun _ => False) hA).alloc (tbox t a cap)).alloc (.cells #[.int .i64 f] 3 (0, 0))).alloc zbox)
  have B0 := Lib.hid (show (((w.alloc (tbox t a cap)).alloc (.cells #[.int .i64 f] 3 (0, 0))).alloc zbox).heap[w.heap.size]? = some (tbox t a cap) from Below.blk (below_alloc _ _) (Below.blk (below_alloc _ _) (heap_alloc_new _ _)))
  have B1 := Lib.hid (show (((w.alloc (tbox t a cap)).alloc (.cells #[.int .i64 f] 3 (0, 0))).alloc zbox).heap[w.heap.size + 1]? = some (.cells #[.int .i64 f] 3 (0, 0)) from Below.blk (below_alloc _ _) (heap_alloc_at _ _ _ (by simp)))
  have B2 := Lib.hid (show (((w.alloc (tbox t a cap)).alloc (.cells #[.int .i64 f] 3 (0, 0))).alloc zbox).heap[w.heap.size + 1 + 1]? = some zbox from heap_alloc_at _ _ _ (by simp))
  have n1 : H (w.heap.size + 1) = none := hA.free (by omega)
  have n2 : H (w.heap.size + 1 + 1) = none := hA.free (by omega)
  clear hR
  cases hv : t.valid with
  | false =>
    have ho := Lib.hid (show St.runV g t f = (Tm.zero, 0, 1) by unfold St.runV; rw [if_pos hv])
    have HV := Lib.hid hv
    clear hv hg
    go_enter Try.func33, Try.ntmps33
    go_wp2_with fail
    refine (h1.out _ E0.out.agree).mono ?_
    rw [HV.out]
    rintro e w1 ⟨rfl, hb1⟩
    obtain ⟨q0, q1, q2, q3, q4, q5, q6, q7, q8⟩ := box4 (Below.blk hb1 B2.out)
    have E1 := (E0.out.then_below hb1).store4 n2 (by omega) (.int .i64 0) (.string ⟨#[]⟩) (.int .i64 0) (.slice none 0 0)
    go_wp2_with fail
    refine bodyPost_ret (v := .tuple #[.agg #[.int .i64 0, .string ⟨#[]⟩, .int .i64 0, .slice none 0 0], .int .i64 0, .int .i64 1]) (by simp [results, Try.results33, go_sem, q0, q1, q2, q3, q4]) rfl ?_
    unfold RunPost
    rw [ho.out]
    exact ⟨H, _, rfl, E1, rep_zero H⟩
  | true =>
    have ho := Lib.hid (show St.runV g t f = if (g t f).2.1 ≠ 0 then (Tm.zero, 0, (g t f).2.1) else ((g t f).1, (g t f).2.2, 0) by unfold St.runV; rw [if_neg (by rw [hv]; simp)])
    have hg2 := Lib.hid (hg hv)
    have HV := Lib.hid hv
    clear hv hg
    go_enter Try.func33, Try.ntmps33
    go_wp2_with fail
    refine (h1.out _ E0.out.agree).mono ?_
    rw [HV.out]
    rintro e w1 ⟨rfl, hb1⟩
    have E1 := Lib.hid (E0.out.then_below hb1)
    have C1 := Lib.hid (Below.blk hb1 B1.out)
    have C2 := Lib.hid (Below.blk hb1 B2.out)
    obtain ⟨p0, p1, p2, p3, p4, p5, p6, p7, p8⟩ := box4 (Below.blk hb1 B0.out)
    go_wp2_with fail
    refine (hg2.out (w.heap.size + 1) _ (by omega) E1.out C1.out n1).mono ?_
    unfold FullPost
    generalize g t f = r at *
    obtain ⟨u, er, f2⟩ := r
    dsimp only at ho
    rintro e w2 ⟨H2, ucs, rfl, X2, R2, D1⟩
    dsimp only at R2 D1
    have HR2 := Lib.hid R2
    obtain ⟨ua, uc, rfl, -, -, -, -⟩ := R2.open_
    have E2 := Lib.hid (E1.out.trans X2 (fun k hk h => by omega))
    have D2 := Lib.hid ((X2.block (w.heap.size + 1 + 1) (cell_lt C2.out) (by omega)).trans C2.out)
    have k2 := (X2.old _ (cell_lt C2.out)).trans n2
    obtain ⟨q0, q1, q2, q3, q4, q5, q6, q7, q8⟩ := box4 D2.out
    obtain ⟨g0, g1⟩ := blk_cell D1
    have g2 := cell_lt D1
    clear p0 p1 p2 p3 p4 p5 p6 p7 p8 hg2 X2 D1
    by_cases her : er = 0
    · subst her
      rw [if_neg (by simp)] at ho
      have E3 := Lib.hid (((E2.out.store4 k2 (by omega) (.int .i64 u.k) (.string u.s) (.int .i64 u.n) (.slice ua u.l.length uc)).alloc (tbox u ua uc)).drew)
      go_wp2_with fail
      go_region
      go_wp2_with fail
      refine bodyPost_ret (v := .tuple #[.agg #[.int .i64 u.k, .string u.s, .int .i64 u.n, .slice ua u.l.length uc], .int .i64 f2, .int .i64 0]) (by simp [results, Try.results33, go_sem, q0, q1, q2, q3, q4]) rfl ?_
      unfold RunPost
      rw [ho.out]
      exact ⟨H2, _, rfl, E3.out, HR2.out⟩
    · rw [if_pos her] at ho
      have her' : (er != 0) = true := by rw [bne_iff_ne]; exact her
      have E3 := Lib.hid ((E2.out.store4 k2 (by omega) (.int .i64 0) (.string ⟨#[]⟩) (.int .i64 0) (.slice none 0 0)).alloc (tbox u ua uc))
      go_wp2_with fail
      refine bodyPost_ret (v := .tuple #[.agg #[.int .i64 0, .string ⟨#[]⟩, .int .i64 0, .slice none 0 0], .int .i64 0, .int .i64 er]) (by simp [results, Try.results33, go_sem, q0, q1, q2, q3, q4]) rfl ?_
      unfold RunPost
      rw [ho.out]
      exact ⟨H2, _, rfl, E3.out, rep_zero H2⟩
end Go.Proofs.Ytbdappbmlnpogaa
