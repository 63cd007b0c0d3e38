/- Package invert: flex. Package invert on plain data: what an inversion keeps. Package invert on plain data: what term is asked, and what it keeps. Package invert: term, where it stops at once. -/
import Derived.Test.YtbdappbmlnpogaaBP9
namespace Go.Proofs.Ytbdappbmlnpogaa
open Go Go.RowKit
set_option maxRecDepth 100000
theorem flexA_lens (c : Ic) (k n : Int) (l : List Tm) (j : Nat) : (Ic.flexA c k n (l.take j) 0).1.length ≤ l.length ∧ (Ic.flexA c k n (l.take j) 0).2.length ≤ l.length := by
  have := Ic.flexA_len c k n (l.take j) 0
  rw [List.length_take] at this
  omega
set_option maxHeartbeats 16000000 in
theorem invert_flex {F : Nat → Prop} (vb s : Nat) (c : Ic) (la : Option Addr) (lc : Nat) (H : GH) (w : World) (S : St) (M : Nat) (B : Int) (y : Int) (l : List Tm) (v : Value) (k f e0 : Int) (hA : Agree H w) (hvb : w.heap[vb]? = some (ivbox s c la lc f e0)) (hH : H vb = none) (hvF : ¬ F vb) (hS : StAt H w F s S) (hL : Tms H (.slice la c.L.length lc) c.L) (hLl : ∀ u ∈ c.L, u.isLeaf = true) (hLn : c.L.length ≤ 1048576) (hcl : I64 c.lv)
    (hy : I64 y) (hK : Tms H v l) (hkn : l.length ≤ 1073741824) (hb : ∀ t ∈ l, t.valid = true → t.bnd B = true) (hok : S.Ok M B) (hsz : ∀ t ∈ l, t.size + f.toNat * M + M ≤ SB) (hB : B + f.toNat * SB + SB ≤ Tm.far) (hf0 : 0 ≤ f) (hf1 : f ≤ 1048576) (hk0 : 0 ≤ k) (hk1 : k ≤ 1099511627776) (hn : S.V.length ≤ 1073741824) (hnT : S.T.length ≤ 1073741824) :
    Calls Try.prog 68 #[.pointer (some ⟨vb, 0, none⟩), .int .i64 y, v, .int .i64 k] w (FlexPost F vb s c la lc H w (c.flex ⟨S, f, e0⟩ y l k)) := by
  have E0 := Lib.hid ((Ext.refl (O := fun _ => False) hA).alloc zbox)
  have E0d := Lib.hid E0.out.drew
  have B0 := Lib.hid (heap_alloc_new w zbox)
  have BV0 := Lib.hid (Below.blk (below_alloc w zbox) hvb)
  have HT := Lib.hid hS.tight
  have hTF : ¬ (F vb ∧ vb < w.heap.size) := fun h => hvF h.1
  have HTF := Lib.hid hTF
  have hz := cell_lt hvb
  have hargs := Lib.hid (invert_Args H _ s S M B y l v f E0d.out.agree (HT.out.pure E0d.out) hK hkn hb hok hsz hB (by unfold I64; omega))
  have HFU := Lib.hid (fun h => St.args_fuel S y l f hf0 h)
  have HKN := Lib.hid (fun h => St.args_known S y l f h)
  obtain ⟨ka, kc, rfl, -, -⟩ := hK.form
  have hfl := Lib.hid (show c.flex ⟨S, f, e0⟩ y l k = _ from (by unfold Ic.flex; rfl))
  generalize hr : S.args y l f = r at *
  obtain ⟨leaves, left, er⟩ := r
  dsimp only at hfl HFU
  have HS := Lib.hid hS
  have HK := Lib.hid hK
  have HL := Lib.hid hL
  have HLL := Lib.hid hLl
  have hne0 : w.heap.size ≠ vb := by omega
  clear hS hK hL hLl hb hok hsz hB hr hTF
  go_enter Try.func68, Try.ntmps68
  go_wp2_with fail
  generalize hW0 : w.alloc zbox = W0 at *
  have hW0s := Lib.hid (show w.heap.size < W0.heap.size from cell_lt B0.out)
  clear hW0
  obtain ⟨v0, v1, v2, v3, v4, v5, v6⟩ := box6 BV0.out
  have K0 := iv04 (W := W0.drew) BV0.out
  go_region_held3 (fun w' => w'.cell? ⟨vb, 0, none⟩ = some (.pointer (some ⟨s, 0, none⟩)) ∧ w'.cell? ⟨vb, 4, none⟩ = some (.int .i64 f)) (with_reducible (first | exact K0 | exact KJ)) (first | (go_at_call 20; ((with_reducible refine hargs.out.mono ?_); rintro e w1 ⟨H1, lv, rfl, X1, T1⟩; have KJ := iv04 (Below.blk X1.below BV0.out); dsimp only at T1)))
  have E1 := Lib.hid (E0d.out.then X1)
  have B1 := Lib.hid (Below.blk X1.below B0.out)
  have BV1 := Lib.hid (Below.blk X1.below BV0.out)
  have k1 : H1 vb = none := (E1.out.old _ hz).trans hH
  have n1 : H1 w.heap.size = none := (X1.old _ hW0s.out).trans (hA.free (Nat.le_refl _))
  have S1 := Lib.hid (HT.out.pure E1.out)
  have HL1 := Lib.hid (HL.out.mono E1.out.sub)
  have HT1 := Lib.hid T1
  obtain ⟨lva, lvc, rfl, -, -⟩ := T1.form
  clear hargs T1 X1 v0 v1 v2 v3 v4 v5 v6
  by_cases her : er = 0
  · subst her
    rw [if_neg (by simp)] at hfl
    obtain ⟨g1, g2, g3⟩ := HFU.out rfl
    have hkn1 := HKN.out rfl
    have hinf := Lib.hid (fun W hW => store_Info H1 W s S y (F := fun k => F k ∧ k < w.heap.size) hW)
    have T0 : Ext (fun k => k = vb) H1 w1 H1 (w1.setCell ⟨vb, 4, none⟩ (.int .i64 left)) := (Ext.refl (O := fun k => k = vb) E1.out.agree).setCell (p := ⟨vb, 4, none⟩) k1 (fun _ => rfl) _
    have C1 := Lib.hid (blk6_set4 (u := .int .i64 left) BV1.out)
    have C0 := Lib.hid ((blk_far1 (.int .i64 left) (o := 4) hne0).trans B1.out)
    have S1' := Lib.hid (S1.out.ext T0 (fun k hk hF => by subst hk; exact HTF.out hF))
    have E1' := Lib.hid ((E1.out.mono (O' := fun k => k = vb ∨ F k) (fun _ h => h.elim)).trans T0 (fun k hk _ => .inl hk))
    have hz1 : vb < w1.heap.size := cell_lt BV1.out
    have hfz := (blk_cells BV1.out 4).2
    have hfz2 := (box6 BV1.out).2.2.2.2.2.1
    have hI := Lib.hid (rfl : S.info y = S.info y)
    generalize hIg : S.info y = I at *
    obtain ⟨i, ok⟩ := I
    dsimp only at hfl hkn1
    subst hkn1
    have HWI := Lib.hid (show w.heap.size < w1.heap.size from cell_lt B1.out)
    have HF := Lib.hid (show left.toNat ≤ f.toNat ∧ leaves.length ≤ 1048576 by omega)
    have HGL := Lib.hid (show leaves.length ≤ 1048576 ∧ (leaves.length : Int) + left ≤ f ∧ 0 ≤ left from by omega)
    clear hI HFU HKN T0 g1 g2 g3
    go_wp2_with fail
    refine (hinf.out _ S1'.out).mono ?_
    rintro e w2 ⟨ics, rfl, hb2, hRI⟩
    obtain ⟨tcs, rfl, hR1, hlv⟩ := hRI
    obtain ⟨ia, ic, rfl, -, -, -, -⟩ := hR1.open_
    have E2 := Lib.hid (E1'.out.then_below hb2)
    have HWI := Lib.hid (show w.heap.size < w2.heap.size from Nat.lt_of_lt_of_le HWI.out (by simpa [World.setCell] using hb2.size))
    have S2 := Lib.hid (S1'.out.below E1'.out.agree hb2)
    have B2 := Lib.hid (Below.blk hb2 C0.out)
    have BV2 := Lib.hid (Below.blk hb2 C1.out)
    clear hinf hR1 hz1 hfz hfz2
    have E3 := Lib.hid (E2.out.alloc (.cells #[.int .i64 i.lv, .bool i.bd, .int .i64 i.vl.k, .string i.vl.s, .int .i64 i.vl.n, .slice ia i.vl.l.length ic] 37 (0, 0)))
    have S3 := Lib.hid (S2.out.below E2.out.agree (below_alloc w2 (.cells #[.int .i64 i.lv, .bool i.bd, .int .i64 i.vl.k, .string i.vl.s, .int .i64 i.vl.n, .slice ia i.vl.l.length ic] 37 (0, 0))))
    have B3 := Lib.hid (Below.blk (below_alloc w2 (.cells #[.int .i64 i.lv, .bool i.bd, .int .i64 i.vl.k, .string i.vl.s, .int .i64 i.vl.n, .slice ia i.vl.l.length ic] 37 (0, 0))) B2.out)
    have BV3 := Lib.hid (Below.blk (below_alloc w2 (.cells #[.int .i64 i.lv, .bool i.bd, .int .i64 i.vl.k, .string i.vl.s, .int .i64 i.vl.n, .slice ia i.vl.l.length ic] 37 (0, 0))) BV2.out)
    have BI3 := Lib.hid (heap_alloc_new w2 (.cells #[.int .i64 i.lv, .bool i.bd, .int .i64 i.vl.k, .string i.vl.s, .int .i64 i.vl.n, .slice ia i.vl.l.length ic] 37 (0, 0)))
    have hlN : (leaves.length : Int) ≤ 1048576 := by have := HGL.out.1; omega
    go_wp2_with fail
    generalize hW3 : w2.alloc (.cells #[.int .i64 i.lv, .bool i.bd, .int .i64 i.vl.k, .string i.vl.s, .int .i64 i.vl.n, .slice ia i.vl.l.length ic] 37 (0, 0)) = W3 at *
    have hn1 := n1
    clear hW3 E2 S2 B2 BV2 hb2 C0 C1 B1 BV1 S1 S1' E1' E0 E0d B0 BV0 hW0s K0 KJ
    go_loopw [14, 15, 57] (fun va vb' i wr => FlexRel H1 W3 (fun j => Ic.flexA c k leaves.length (leaves.take j) 0) leaves.length va vb' i wr) (fun _ _ i _ => leaves.length - (intOf i).toNat)
    case atStart => exact ⟨0, Nat.zero_le _, rfl, Ext.refl E3.out.agree, by simp [Ic.flexA]; exact Own.nil _ _ _ _ _ _, by simp [Ic.flexA]; exact Own.nil _ _ _ _ _ _, fun g hg => by simp [Value.ownBlock] at hg⟩
    case round =>
      unfold FlexRel at hrel
      dsimp only at hrel
      obtain ⟨j, hj, rfl, EC, owa, owb, hne⟩ := hrel
      obtain ⟨aa, ac, rfl, -, -⟩ := owa.form
      obtain ⟨ba, bc, rfl, -, -⟩ := owb.form
      have HEC := Lib.hid EC
      have HOA := Lib.hid owa
      have HOB := Lib.hid owb
      have HNE := Lib.hid hne
      have hlens := flexA_lens c k leaves.length leaves j
      clear EC owa owb hne
      by_cases hlt : j < leaves.length
      · obtain ⟨t, ht⟩ : ∃ t, leaves[j]? = some t := ⟨_, List.getElem?_eq_getElem hlt⟩
        obtain ⟨lb, lo, cs, rfl, -, hRt, hcell⟩ := HT1.out.get ht
        have hrt1 := Lib.hid hRt
        have HBV := Lib.hid (Below.blk HEC.out.below BV3.out)
        obtain ⟨ta, tc, rfl, -, -, -, -⟩ := hRt.open_
        have c0 := HEC.out.agree.cell (hcell 0 _ rfl)
        have c1 := HEC.out.agree.cell (hcell 1 _ rfl)
        have c2 := HEC.out.agree.cell (hcell 2 _ rfl)
        have c3 := HEC.out.agree.cell (hcell 3 _ rfl)
        simp only [Nat.add_zero, ← Nat.add_assoc] at c0 c1 c2 c3
        have hbl := World.block_lt_of_cell? wr _ c0
        have E4 := Lib.hid (HEC.out.alloc (tbox t ta tc))
        have him := Lib.hid (invert_image vb s c la lc H1 _ left e0 t _ k E4.out.agree (Below.blk (below_alloc wr (tbox t ta tc)) HBV.out) HL1.out hrt1.out hk0 hk1 (by omega))
        have htk := Lib.hid (Ic.flexA_take c k leaves.length leaves j t ht)
        clear ht hcell hRt
        go_wp2_with fail
        refine him.out.mono ?_
        generalize hq : c.image t k = q at htk
        obtain ⟨u, is⟩ := q
        unfold ImagePost
        rintro e w5 ⟨us, rfl, X5, R5⟩
        dsimp only at R5 htk
        have hz5 : wr.heap.size ≤ w5.heap.size := Nat.le_trans (below_alloc wr (tbox t ta tc)).size X5.size
        have HRU := Lib.hid R5
        obtain ⟨ua, uc, rfl, -, -, -, -⟩ := R5.open_
        have OA5 := (HOA.out.alloc (tbox t ta tc)).pure X5 (fun _ _ h => h)
        have OB5 := (HOB.out.alloc (tbox t ta tc)).pure X5 (fun _ _ h => h)
        have KX : Hid (FI H1 W3 w5.heap.size u ua uc _ _ _ _ (w5.alloc (tbox u ua uc))) := Lib.hid ⟨(E4.out.then X5).alloc _, OA5.alloc _, OB5.alloc _, HNE.out, heap_alloc_new _ _, fun e => by have := (HOA.out.lt _ e).2; omega, fun e => by have := (HOB.out.lt _ e).2; omega⟩
        have hal : Hid (∀ g, (Value.slice aa (Ic.flexA c k leaves.length (leaves.take j) 0).1.length ac).ownBlock = some g → g < w5.heap.size) := Lib.hid (fun g hg => by have := (HOA.out.lt _ hg).2; omega)
        clear R5 OA5 OB5 X5 him hq
        cases is with
        | false =>
          go_wp2_with fail
          go_roundw
          case rel =>
            refine ⟨j + 1, by omega, by go_num, KX.out.ext, ?_, ?_, HNE.out⟩
            · show Own _ _ _ _ _ _ _ (Ic.flexA c k leaves.length (leaves.take (j + 1)) 0).1
              rw [htk.out, if_neg (by simp)]; exact KX.out.a
            · show Own _ _ _ _ _ _ _ (Ic.flexA c k leaves.length (leaves.take (j + 1)) 0).2
              rw [htk.out, if_neg (by simp)]; exact KX.out.b
          case measure => simp [intOf]; omega
        | true =>
          have hbn := Lib.hid (fun W => invert_bound H1 W (leaves.length - 1 - j) (by unfold I64; omega))
          have HL1' := Lib.hid (show (Ic.flexA c k leaves.length (leaves.take j) 0).1.length + 1 ≤ maxLen ∧ ((Ic.flexA c k leaves.length (leaves.take j) 0).1.length + 1) * 56 ≤ 140737488355328 by have := hlens.1; unfold maxLen; omega)
          have HL2' := Lib.hid (show (Ic.flexA c k leaves.length (leaves.take j) 0).2.length + 1 ≤ maxLen ∧ ((Ic.flexA c k leaves.length (leaves.take j) 0).2.length + 1) * 56 ≤ 140737488355328 by have := hlens.2; unfold maxLen; omega)
          have hw1 := IntWalk.i64_in ((leaves.length : Int) - 1) (by omega)
          have hw2 := IntWalk.i64_in ((leaves.length : Int) - 1 - j) (by omega)
          have K1 := KX.out.drew
          have K2 := (KX.out.alloc (tbox u ua uc)).drew
          go_wp2_with fail
          generalize hWX : w5.alloc (tbox u ua uc) = WX at *
          have hWs : WX.heap.size = w5.heap.size + 1 := by rw [← hWX]; simp
          have HWS := Lib.hid hWs
          clear hWX hWs
          go_region_held3 (fun w' => w'.cell? ⟨w5.heap.size, 0, none⟩ = some (.int .i64 u.k) ∧ w'.cell? ⟨w5.heap.size, 1, none⟩ = some (.string u.s) ∧ w'.cell? ⟨w5.heap.size, 2, none⟩ = some (.int .i64 u.n) ∧ w'.cell? ⟨w5.heap.size, 3, none⟩ = some (.slice ua u.l.length uc)) (with_reducible (first | exact FI.cells K1 | exact FI.cells K2 | exact FI.cells KJ | exact FI.cells (KJ.alloc _) | exact FI.cells ((KJ.alloc _).alloc _) | exact FI.cells KK | exact FI.cells (KK.alloc _) | exact FI.cells KL)) (first
            | (go_at_call 31; ((with_reducible refine (hbn.out _).mono ?_); rintro e w7 ⟨cs7, rfl, hb7, R7⟩; have KJ : FI _ _ _ _ _ _ _ _ _ _ w7 := (by with_reducible exact FI.below K1 hb7); have hs7 : WX.heap.size ≤ w7.heap.size := hb7.size; obtain ⟨xa, xc, rfl, -, -, -, -⟩ := R7.open_))
            | (go_at_call 31; ((with_reducible refine (hbn.out _).mono ?_); rintro e w7 ⟨cs7, rfl, hb7, R7⟩; have KJ : FI _ _ _ _ _ _ _ _ _ _ w7 := (by with_reducible exact FI.below K2 hb7); have hs7 : WX.heap.size ≤ w7.heap.size := Nat.le_trans (by simp) hb7.size; have BX := Below.blk hb7 (show (WX.alloc (tbox u ua uc)).drew.heap[WX.heap.size]? = some (tbox u ua uc) from heap_alloc_new _ _); obtain ⟨xa, xc, rfl, -, -, -, -⟩ := R7.open_))
            | (refine step_own1 rfl (.tmp 70) (.tmp 77) rfl isSl_tms (.slice aa (Ic.flexA c k leaves.length (leaves.take j) 0).1.length ac) rfl _ _ rfl (KJ.alloc _).a (KJ.alloc _).ext.agree (KJ.alloc _).ext.size _ (heap_alloc_new w7 _) _ R7 rfl R7.one HL1'.out.1 HL1'.out.2 ?_; intro v8 w8 own8 hg8 hb8; have KK := FI.app1 (KJ.alloc _) own8 hg8 hb8; try have BX8 := grown_blk hg8 (Below.blk (below_alloc w7 _) BX) (fun e => by have := hal.out _ e; have := HWS.out; omega))
            | (refine step_own1 rfl (.tmp 70) (.tmp 77) rfl isSl_tms (.slice aa (Ic.flexA c k leaves.length (leaves.take j) 0).1.length ac) rfl _ _ rfl ((KJ.alloc _).alloc _).a ((KJ.alloc _).alloc _).ext.agree ((KJ.alloc _).alloc _).ext.size _ (by first | exact heap_alloc_at _ _ _ (by simp) | exact Below.blk (below_alloc _ _) (heap_alloc_new w7 _)) _ R7 rfl R7.one HL1'.out.1 HL1'.out.2 ?_; intro v8 w8 own8 hg8 hb8; have KK := FI.app1 ((KJ.alloc _).alloc _) own8 hg8 hb8; have BXa := grown_blk hg8 (Below.blk (below_alloc _ _) (heap_alloc_new w7 _)) (fun e => by have := hal.out _ e; have := HWS.out; omega); have BXb := grown_blk hg8 (heap_alloc_at (w7.alloc _) _ (w7.heap.size + 1) (by simp)) (fun e => by have := hal.out _ e; have := HWS.out; omega))
            | (refine step_own1 rfl (.tmp 79) (.tmp 81) rfl isSl_tms (.slice ba (Ic.flexA c k leaves.length (leaves.take j) 0).2.length bc) rfl _ _ rfl KK.b KK.ext.agree KK.ext.size _ (by with_reducible first | exact BX8 | exact BXa | exact BXb) u HRU.out rfl HRU.out.one HL2'.out.1 HL2'.out.2 ?_; intro v9 w9 own9 hg9 hb9; have KL := FI.app2 KK own9 hg9 hb9)
            | (refine step_own1 rfl (.tmp 79) (.tmp 81) rfl isSl_tms (.slice ba (Ic.flexA c k leaves.length (leaves.take j) 0).2.length bc) rfl _ _ rfl (KK.alloc _).b (KK.alloc _).ext.agree (KK.alloc _).ext.size _ (heap_alloc_new w8 _) u HRU.out rfl HRU.out.one HL2'.out.1 HL2'.out.2 ?_; intro v9 w9 own9 hg9 hb9; have KL := FI.app2 (KK.alloc _) own9 hg9 hb9))
          all_goals
            go_wp2_with fail
            go_roundw
            case rel =>
              refine ⟨j + 1, by omega, by go_num, KL.ext, ?_, ?_, KL.ne⟩
              · show Own _ _ _ _ _ _ _ (Ic.flexA c k leaves.length (leaves.take (j + 1)) 0).1
                rw [htk.out, if_pos (by trivial)]; exact KL.a
              · show Own _ _ _ _ _ _ _ (Ic.flexA c k leaves.length (leaves.take (j + 1)) 0).2
                rw [htk.out, if_pos (by trivial)]; exact KL.b
            case measure => simp [intOf]; omega
      · have hjl : j = leaves.length := by omega
        have hAe : Ic.flexA c k leaves.length (leaves.take j) 0 = Ic.flexA c k leaves.length leaves 0 := by rw [List.take_of_length_le (by omega)]
        have hAl := Ic.flexA_len c k leaves.length leaves 0
        generalize hAg : Ic.flexA c k leaves.length (leaves.take j) 0 = A at *
        generalize hAg2 : Ic.flexA c k leaves.length leaves 0 = A2 at *
        subst hAe
        have HAL := Lib.hid hAl
        have hA1 : (A.1.length : Int) ≤ 1048576 := by have := hlens.1; have := HGL.out.1; omega
        have hA2 : (A.2.length : Int) ≤ 1048576 := by have := hlens.2; have := HGL.out.1; omega
        clear hAg hAg2 hlens hjl hAl
        have E4 := Lib.hid (E3.out.then HEC.out)
        have S4 := Lib.hid (S3.out.pure HEC.out)
        have B4 := Lib.hid (Below.blk HEC.out.below B3.out)
        have BV4 := Lib.hid (Below.blk HEC.out.below BV3.out)
        have BI4 := Lib.hid (Below.blk HEC.out.below BI3.out)
        go_upto_region 14 with fail
        go_cut [97] from 84 (fun b wx => ∃ q : Bool, b = .bool q ∧ (q = true ↔ A.1.length = leaves.length ∧ i.lv ≤ c.lv) ∧ Below wr.heap.size wr wx)
        case first =>
          obtain ⟨i0, i1, i2, i3, i4, i5, i6⟩ := box6 BI4.out
          obtain ⟨v0, v1, v2, v3, v4, v5, v6⟩ := box6 BV4.out
          cases hE : ((A.1.length : Int) == (leaves.length : Int)) with
          | true =>
            have hE' : A.1.length = leaves.length := by have := beq_iff_eq.1 hE; omega
            have HE := Lib.hid hE'
            have hE2 : (A.1.length == leaves.length) = true := beq_iff_eq.2 hE'
            have hE3 : decide (A.1.length = leaves.length) = true := decide_eq_true hE'
            clear hE'
            by_cases hle : i.lv ≤ c.lv
            · have hd : decide (i.lv ≤ c.lv) = true := decide_eq_true hle
              go_quiet (fail)
              go_wp2_with fail
              go_meet
              exact ⟨true, rfl, by simp [HE.out, hle], below_drewN (Below.refl _ _) _⟩
            · have hd : decide (i.lv ≤ c.lv) = false := decide_eq_false hle
              have HLE := Lib.hid hle
              clear hle
              go_quiet (fail)
              go_wp2_with fail
              go_meet
              exact ⟨false, rfl, by have := HLE.out; simp; omega, below_drewN (Below.refl _ _) _⟩
          | false =>
            have hE' : ¬ A.1.length = leaves.length := by have := beq_eq_false_iff_ne.1 hE; omega
            have HE := Lib.hid hE'
            have hE2 : (A.1.length == leaves.length) = false := beq_eq_false_iff_ne.2 hE'
            have hE3 : decide (A.1.length = leaves.length) = false := decide_eq_false hE'
            clear hE'
            go_quiet (fail)
            go_wp2_with fail
            go_meet
            exact ⟨false, rfl, by simp [HE.out], below_drewN (Below.refl _ _) _⟩
        case rest =>
          obtain ⟨q, rfl, hqc, hbx⟩ := hcut
          have HQC := Lib.hid hqc
          clear hqc
          have E5 := Lib.hid (E4.out.then_below hbx)
          have X5 := Lib.hid (HEC.out.then_below hbx)
          have S5 := Lib.hid (S4.out.below E4.out.agree hbx)
          have B5 := Lib.hid (Below.blk hbx B4.out)
          have BV5 := Lib.hid (Below.blk hbx BV4.out)
          have BI5 := Lib.hid (Below.blk hbx BI4.out)
          have OA5 := Lib.hid (HOA.out.below hbx)
          have OB5 := Lib.hid (HOB.out.below hbx)
          clear hbx HEC HOA HOB E4 S4 B4 BV4 BI4
          cases q with
          | true =>
            have hcond := HQC.out.1 rfl
            rw [if_pos hcond] at hfl
            have hvar := Lib.hid (fun W => invert_variable H1 W y hy)
            obtain ⟨H2, X2, -, hT2⟩ := freeze_two X5.out OA5.out OB5.out HNE.out
            have E6 := Lib.hid (E3.out.then X2)
            have HTM := Lib.hid hT2
            have hs6 := Lib.hid X2.sub
            have k6 : H2 w.heap.size = none := (X2.old _ (cell_lt B3.out)).trans hn1
            have S6' := Lib.hid (S3.out.pure X2)
            clear X2 hT2 hcond
            go_wp2_with fail
            refine (hvar.out _).mono ?_
            rintro e w6 ⟨cs6, rfl, hb6, R6⟩
            have E7 := Lib.hid (E6.out.then_below hb6)
            have hap := Lib.hid (term_Apply (leafT 4 y) _ A.2 _ H2 _ (R6.mono hs6.out) HTM.out E7.out.agree (by intro h; cases h) (by have := apply_leaf_len 4 y (by decide) A.2; unfold LB; omega))
            have B6 := Lib.hid (Below.blk hb6 B5.out)
            have BV6 := Lib.hid (Below.blk hb6 BV5.out)
            have S6 := Lib.hid (S6'.out.below E6.out.agree hb6)
            obtain ⟨xa, xc, rfl, -, -, -, -⟩ := R6.open_
            clear hvar
            go_wp2_with fail
            refine hap.out.mono ?_
            rintro e w7 ⟨H7, cs7, rfl, X7, R7⟩
            have HR7 := Lib.hid R7
            have B7 := Lib.hid (Below.blk X7.below B6.out)
            have BV7 := Lib.hid (Below.blk X7.below BV6.out)
            have S7 := Lib.hid (S6.out.pure X7)
            have E8 := Lib.hid (E7.out.then X7)
            have n7 := (X7.old _ (cell_lt B6.out)).trans k6
            generalize hY : (leafT 4 y).apply A.2 = Y at *
            obtain ⟨ya, yc, rfl, -, -, -, -⟩ := R7.open_
            obtain ⟨q0, q1, q2, q3, q4, q5, q6, q7, q8⟩ := box4 B7.out
            clear hap X7 R7
            go_wp2_with fail
            refine bodyPost_ret (v := .agg #[.int .i64 Y.k, .string Y.s, .int .i64 Y.n, .slice ya Y.l.length yc]) (by simp [results, Try.results68, go_sem, q0, q1, q2, q3, q4]) rfl ?_
            exact flex_fin hne0 E8.out B7.out n7 BV7.out S7.out (fun h => Nat.lt_irrefl _ h.2) (fun k hk => .inl hk.1) HR7.out hfl.out
          | false =>
            have hcond : ¬ (A.1.length = leaves.length ∧ i.lv ≤ c.lv) := fun h => by have := HQC.out.2 h; cases this
            rw [if_neg hcond] at hfl
            obtain ⟨v0, v1, v2, v3, v4, v5, v6⟩ := box6 BV5.out
            have hLN : (c.L.length : Int) ≤ 1048576 := by omega
            clear hcond
            go_wp2_with fail
            go_loopw [14, 15, 107] (fun va vb' x wr => FlexRel H1 W3 (fun j => (A.1 ++ (Ic.flexB c k i.lv (c.L.take j) 0).1, A.2 ++ (Ic.flexB c k i.lv (c.L.take j) 0).2)) c.L.length va vb' x wr) (fun _ _ x _ => c.L.length - (intOf x).toNat)
            case atStart =>
              exact ⟨0, Nat.zero_le _, rfl, X5.out, by simp [Ic.flexB]; exact OA5.out, by simp [Ic.flexB]; exact OB5.out, HNE.out⟩
            case round =>
              unfold FlexRel at hrel
              dsimp only at hrel
              obtain ⟨j, hj, rfl, EC, owa, owb, hne⟩ := hrel
              obtain ⟨aa', ac', rfl, -, -⟩ := owa.form
              obtain ⟨ba', bc', rfl, -, -⟩ := owb.form
              have HEC := Lib.hid EC
              have HOA := Lib.hid owa
              have HOB := Lib.hid owb
              have HNE2 := Lib.hid hne
              have hlens := flexB_lens c k i.lv c.L HLL.out j
              clear EC owa owb hne
              have hon : (A.1 ++ (Ic.flexB c k i.lv (c.L.take j) 0).1).length ≤ 2097152 := by rw [List.length_append]; omega
              have him : (A.2 ++ (Ic.flexB c k i.lv (c.L.take j) 0).2).length ≤ 2097152 := by rw [List.length_append]; omega
              generalize hON : A.1 ++ (Ic.flexB c k i.lv (c.L.take j) 0).1 = on at *
              generalize hIM : A.2 ++ (Ic.flexB c k i.lv (c.L.take j) 0).2 = im at *
              have HON := Lib.hid hON
              have HIM := Lib.hid hIM
              clear hON hIM hlens
              by_cases hlt : j < c.L.length
              · obtain ⟨t, ht⟩ : ∃ t, c.L[j]? = some t := ⟨_, List.getElem?_eq_getElem hlt⟩
                obtain ⟨lb, lo, cs, hla, -, hRt, hcell⟩ := HL1.out.get ht
                subst hla
                have HRT := Lib.hid hRt
                obtain ⟨ta, tc, rfl, -, -, -, -⟩ := hRt.open_
                have c0 := HEC.out.agree.cell (hcell 0 _ rfl)
                have c1 := HEC.out.agree.cell (hcell 1 _ rfl)
                have c2 := HEC.out.agree.cell (hcell 2 _ rfl)
                have c3 := HEC.out.agree.cell (hcell 3 _ rfl)
                simp only [Nat.add_zero, ← Nat.add_assoc] at c0 c1 c2 c3
                have hbl := World.block_lt_of_cell? wr _ c0
                have htk := Lib.hid (Ic.flexB_take c k i.lv c.L j t ht)
                have KX : Hid (FI H1 W3 wr.heap.size t ta tc _ _ _ _ (wr.alloc (tbox t ta tc))) := Lib.hid ⟨HEC.out.alloc _, HOA.out.alloc _, HOB.out.alloc _, HNE2.out, heap_alloc_new _ _, fun e => by have := (HOA.out.lt _ e).2; omega, fun e => by have := (HOB.out.lt _ e).2; omega⟩
                have hal : Hid (∀ g, (Value.slice aa' on.length ac').ownBlock = some g → g < wr.heap.size) := Lib.hid (fun g hg => by have := (HOA.out.lt _ hg).2; omega)
                have skip : Hid (¬ (c.lv < i.lv ∧ t.k = 1 ∧ t.n ≤ i.lv) → ∀ wx, Below (wr.alloc (tbox t ta tc)).heap.size (wr.alloc (tbox t ta tc)) wx → FlexRel H1 W3 (fun j => (A.1 ++ (Ic.flexB c k i.lv (c.L.take j) 0).1, A.2 ++ (Ic.flexB c k i.lv (c.L.take j) 0).2)) c.L.length (.slice aa' on.length ac') (.slice ba' im.length bc') (.int .i64 ((j : Int) + 1)) wx) := Lib.hid (fun hc wx hb => by
                  have K := KX.out.below hb
                  refine ⟨j + 1, by omega, by go_num, K.ext, ?_, ?_, HNE2.out⟩
                  · show Own _ _ _ _ _ _ _ (A.1 ++ (Ic.flexB c k i.lv (c.L.take (j + 1)) 0).1)
                    rw [htk.out, if_neg hc, HON.out]; exact K.a
                  · show Own _ _ _ _ _ _ _ (A.2 ++ (Ic.flexB c k i.lv (c.L.take (j + 1)) 0).2)
                    rw [htk.out, if_neg hc, HIM.out]; exact K.b)
                have BV6 := Lib.hid (Below.blk (HEC.out.alloc (tbox t ta tc)).below BV3.out)
                have BI6 := Lib.hid (Below.blk (HEC.out.alloc (tbox t ta tc)).below BI3.out)
                clear ht hcell hRt
                go_wp2_with fail
                generalize hWX : wr.alloc (tbox t ta tc) = WX at *
                have hWs : WX.heap.size = wr.heap.size + 1 := by rw [← hWX]; simp
                have HWS := Lib.hid hWs
                clear hWX hWs
                obtain ⟨p0, p1, p2, p3, p4, p5, p6, p7, p8⟩ := box4 KX.out.box
                obtain ⟨v0, v1, v2, v3, v4, v5, v6⟩ := box6 BV6.out
                obtain ⟨i0, i1, i2, i3, i4, i5, i6⟩ := box6 BI6.out
                have hjN : (j : Int) < 1048576 := by omega
                by_cases h1 : c.lv < i.lv
                · have hd1 : decide (c.lv < i.lv) = true := decide_eq_true h1
                  cases h2 : (t.k == 1) with
                  | true =>
                    have h2' : t.k = 1 := beq_iff_eq.1 h2
                    have H2' := Lib.hid h2'
                    clear h2'
                    by_cases h3 : t.n ≤ i.lv
                    · have hd3 : decide (t.n ≤ i.lv) = true := decide_eq_true h3
                      go_quiet (fail)
                      go_wp2_with fail
                      have KY := KX.out.below (below_drewN (Below.refl _ _) nq)
                      have hWYs : (WX.drewN nq).heap.size = wr.heap.size + 1 := HWS.out
                      generalize hWY : WX.drewN nq = WY at *
                      have HWY := Lib.hid hWYs
                      clear hWY hWYs p0 p1 p2 p3 p4 p5 p6 p7 p8 v0 v1 v2 v3 v4 v5 v6 i0 i1 i2 i3 i4 i5 i6
                      have K1 := KY.drew
                      have K2 := (KY.alloc (tbox t ta tc)).drew
                      have hw1 := IntWalk.i64_in (k + (c.L.length : Int)) (by omega)
                      have hw2 := IntWalk.i64_in (k + (c.L.length : Int) - 1) (by omega)
                      have hw3 := IntWalk.i64_in (k + (c.L.length : Int) - 1 - j) (by omega)
                      have hbn := Lib.hid (fun W => invert_bound H1 W (k + c.L.length - 1 - j) (by unfold I64; omega))
                      have HL1' := Lib.hid (show on.length + 1 ≤ maxLen ∧ (on.length + 1) * 56 ≤ 140737488355328 by unfold maxLen; omega)
                      have HL2' := Lib.hid (show im.length + 1 ≤ maxLen ∧ (im.length + 1) * 56 ≤ 140737488355328 by unfold maxLen; omega)
                      go_region_held3 (fun w' => w'.cell? ⟨wr.heap.size, 0, none⟩ = some (.int .i64 t.k) ∧ w'.cell? ⟨wr.heap.size, 1, none⟩ = some (.string t.s) ∧ w'.cell? ⟨wr.heap.size, 2, none⟩ = some (.int .i64 t.n) ∧ w'.cell? ⟨wr.heap.size, 3, none⟩ = some (.slice ta t.l.length tc) ∧ w'.cell? ⟨vb, 3, none⟩ = some (.slice (some ⟨lb, lo, none⟩) c.L.length lc)) (with_reducible (first | exact FI.cells5 K1 BV3.out | exact FI.cells5 K2 BV3.out | exact FI.cells5 KK BV3.out | exact FI.cells5 KJ BV3.out | exact FI.cells5 (KJ.alloc _) BV3.out | exact FI.cells5 KL BV3.out)) (first
                        | (refine step_own1 rfl (.tmp 131) (.tmp 133) rfl isSl_tms (.slice aa' on.length ac') rfl _ _ rfl K2.a K2.ext.agree K2.ext.size _ (show (WY.alloc (tbox t ta tc)).drew.heap[WY.heap.size]? = some (tbox t ta tc) from heap_alloc_new _ _) t HRT.out rfl HRT.out.one HL1'.out.1 HL1'.out.2 ?_; intro v8 w8 own8 hg8 hb8; have KK := FI.app1 K2 own8 hg8 hb8)
                        | (go_at_call 31; ((with_reducible refine (hbn.out _).mono ?_); rintro e w7 ⟨cs7, rfl, hb7, R7⟩; have KJ : FI _ _ _ _ _ _ _ _ _ _ w7 := (by with_reducible exact FI.below KK hb7); obtain ⟨xa, xc, rfl, -, -, -, -⟩ := R7.open_))
                        | (refine step_own1 rfl (.tmp 135) (.tmp 147) rfl isSl_tms (.slice ba' im.length bc') rfl _ _ rfl (KJ.alloc _).b (KJ.alloc _).ext.agree (KJ.alloc _).ext.size _ (heap_alloc_new w7 _) _ R7 rfl R7.one HL2'.out.1 HL2'.out.2 ?_; intro v9 w9 own9 hg9 hb9; have KL := FI.app2 (KJ.alloc _) own9 hg9 hb9))
                      all_goals
                        go_wp2_with fail
                        go_roundw
                        case rel =>
                          refine ⟨j + 1, by omega, by go_num, KL.ext, ?_, ?_, KL.ne⟩
                          · show Own _ _ _ _ _ _ _ (A.1 ++ (Ic.flexB c k i.lv (c.L.take (j + 1)) 0).1)
                            rw [htk.out, if_pos ⟨h1, H2'.out, h3⟩]
                            show Own _ _ _ _ _ _ _ (A.1 ++ ((Ic.flexB c k i.lv (c.L.take j) 0).1 ++ [t]))
                            rw [← List.append_assoc, HON.out]; exact KL.a
                          · show Own _ _ _ _ _ _ _ (A.2 ++ (Ic.flexB c k i.lv (c.L.take (j + 1)) 0).2)
                            rw [htk.out, if_pos ⟨h1, H2'.out, h3⟩]
                            show Own _ _ _ _ _ _ _ (A.2 ++ ((Ic.flexB c k i.lv (c.L.take j) 0).2 ++ [leafT 3 (k + c.L.length - 1 - j)]))
                            rw [← List.append_assoc, HIM.out]; exact KL.b
                        case measure => simp [intOf]; omega
                    · have hd3 : decide (t.n ≤ i.lv) = false := decide_eq_false h3
                      go_quiet (fail)
                      go_wp2_with fail
                      go_roundw
                      case rel => exact skip.out (fun h => by have := h.2.2; omega) _ (below_drewN (Below.refl _ _) _)
                      case measure => simp [intOf]; omega
                  | false =>
                    have h2' : ¬ t.k = 1 := beq_eq_false_iff_ne.1 h2
                    have H2' := Lib.hid h2'
                    clear h2'
                    go_quiet (fail)
                    go_wp2_with fail
                    go_roundw
                    case rel => exact skip.out (fun h => H2'.out h.2.1) _ (below_drewN (Below.refl _ _) _)
                    case measure => simp [intOf]; omega
                · have hd1 : decide (c.lv < i.lv) = false := decide_eq_false h1
                  go_quiet (fail)
                  go_wp2_with fail
                  go_roundw
                  case rel => exact skip.out (fun h => by have := h.1; omega) _ (below_drewN (Below.refl _ _) _)
                  case measure => simp [intOf]; omega
              · have hon2 := HON.out
                have him2 := HIM.out
                rw [List.take_of_length_le (by omega)] at hon2 him2
                obtain ⟨H2, X2, hTon, hTim⟩ := freeze_two HEC.out HOA.out HOB.out HNE2.out
                have E6 := Lib.hid (E3.out.then X2)
                have S6 := Lib.hid (S3.out.pure X2)
                have B6 := Lib.hid (Below.blk X2.below B3.out)
                have BV6 := Lib.hid (Below.blk X2.below BV3.out)
                have BI6 := Lib.hid (Below.blk X2.below BI3.out)
                have k6 : H2 w.heap.size = none := (X2.old _ (cell_lt B3.out)).trans hn1
                have hso : Tm.sizeL on ≤ leaves.length + c.L.length := by
                  rw [← hon2, Tm.sizeL_append]
                  have := HAL.out.2.2
                  have := (Ic.flexB_len c k i.lv c.L HLL.out 0).2.2
                  omega
                have hap := (Tm.apply_size (leafT 4 S.V.length) on).1
                have hla := lams_size leaves.length (Tm.apply (leafT 4 S.V.length) on)
                rw [size_leafT] at hap
                have hmin : (if c.lv < i.lv then c.lv else i.lv) = (if i.lv < c.lv then i.lv else c.lv) := by split <;> split <;> omega
                rw [hmin] at hfl
                have hmn : I64 (if i.lv < c.lv then i.lv else c.lv) := by split <;> assumption
                have hhg := Lib.hid (invert_hang H2 wr.drew s S y (if i.lv < c.lv then i.lv else c.lv) leaves.length on _ E6.out.drew.agree (S6.out.below E6.out.agree (Below.refl _ _).drew) hy hmn hn hnT (by omega) hTon (by unfold Tm.lams SB; simp only [Int.toNat_natCast]; omega))
                have HTI := Lib.hid hTim
                have hfl2 := Lib.hid (hfl.out.trans (by rw [hon2, him2]))
                have hd6 : (leafT 4 (S.V.length : Int)).k = 6 → (leafT 4 (S.V.length : Int)).l ≠ [] := by intro h; cases h
                have hal := apply_leaf_len 4 S.V.length (by decide) im
                have hap2 := Lib.hid (fun cs H W hR hT hA => term_Apply (leafT 4 S.V.length) cs im (.slice ba' im.length bc') H W hR hT hA hd6 (by unfold LB; omega))
                have hhd : Hid ((S.hang y (if i.lv < c.lv then i.lv else c.lv) leaves.length on).1 = leafT 4 S.V.length) := Lib.hid rfl
                clear hmin hso hap hla hTon hTim hon2 him2 hd6 hal v0 v1 v2 v3 v4 v5 v6 hfl
                generalize hm : (if i.lv < c.lv then i.lv else c.lv) = m at *
                go_wp2_with fail
                have K1 : wr.drew.cell? ⟨vb, 0, none⟩ = some (.pointer (some ⟨s, 0, none⟩)) ∧ wr.drew.cell? ⟨vb, 2, none⟩ = some (.int .i64 c.lv) ∧ wr.drew.cell? ⟨w2.heap.size, 0, none⟩ = some (.int .i64 i.lv) := ⟨(iv02 (W := wr.drew) BV6.out).1, (iv02 (W := wr.drew) BV6.out).2, (box6 (w := wr.drew) BI6.out).2.1⟩
                have hwi : w.heap.size ≤ w2.heap.size := by have := HWI.out; omega
                have N1 : vb ≠ w.heap.size := fun h => hne0 h.symm
                have N2 : w2.heap.size ≠ w.heap.size := by have := HWI.out; omega
                go_region_held3 (fun w' => w'.cell? ⟨vb, 0, none⟩ = some (.pointer (some ⟨s, 0, none⟩)) ∧ w'.cell? ⟨vb, 2, none⟩ = some (.int .i64 c.lv) ∧ w'.cell? ⟨w2.heap.size, 0, none⟩ = some (.int .i64 i.lv)) (with_reducible (first | exact K1 | exact KJ | exact KL | exact iv_far KL N1 N2 _ _ _ _)) (first
                  | (go_at_call 32; ((with_reducible refine hhg.out.mono ?_); rintro e w7 ⟨H7, cs7, rfl, X7, R7, S7⟩; have BV7 := (X7.block vb (cell_lt BV6.out) HTF.out).trans BV6.out; have BI7 := (X7.block w2.heap.size (cell_lt BI6.out) (fun h => by have := h.2; omega)).trans BI6.out; have B7 := (X7.block w.heap.size (cell_lt B6.out) (fun h => Nat.lt_irrefl _ h.2)).trans B6.out; have KJ : w7.cell? ⟨vb, 0, none⟩ = some (.pointer (some ⟨s, 0, none⟩)) ∧ w7.cell? ⟨vb, 2, none⟩ = some (.int .i64 c.lv) ∧ w7.cell? ⟨w2.heap.size, 0, none⟩ = some (.int .i64 i.lv) := ⟨(iv02 BV7).1, (iv02 BV7).2, (box6 BI7).2.1⟩; rw [hhd.out] at R7; have HAP := Lib.hid (hap2.out cs7 H7 w7 R7 (HTI.out.mono X7.sub) X7.agree); obtain ⟨xa, xc, rfl, -, -, -, -⟩ := R7.open_))
                  | (go_at_call 14; ((with_reducible refine HAP.out.mono ?_); rintro e w8 ⟨H8, cs8, rfl, X8, R8⟩; have BV8 := Below.blk X8.below BV7; have BI8 := Below.blk X8.below BI7; have B8 := Below.blk X8.below B7; have KL : w8.cell? ⟨vb, 0, none⟩ = some (.pointer (some ⟨s, 0, none⟩)) ∧ w8.cell? ⟨vb, 2, none⟩ = some (.int .i64 c.lv) ∧ w8.cell? ⟨w2.heap.size, 0, none⟩ = some (.int .i64 i.lv) := ⟨(iv02 BV8).1, (iv02 BV8).2, (box6 BI8).2.1⟩; have HR8 := Lib.hid R8; obtain ⟨ya, yc, rfl, -, -, -, -⟩ := R8.open_; obtain ⟨q0, q1, q2, q3, q4, q5, q6, q7, q8⟩ := box4 B8)))
                have k7 : H7 w.heap.size = none := (X7.old _ (cell_lt B6.out)).trans k6
                have k8 : H8 w.heap.size = none := (X8.old _ (cell_lt B7)).trans k7
                have E8 := Lib.hid (((E6.out.drew).trans X7 (fun k hk _ => .inr hk.1)).then X8)
                have S8 := Lib.hid (S7.pure X8)
                have hfl3 := Lib.hid (hfl2.out)
                have hwr := Lib.hid E6.out.size
                generalize hY : (leafT 4 (S.V.length : Int)).apply im = Y at *
                have HYY := Lib.hid hY
                clear hY R8 X8 X7 S7 HAP
                go_wp2_with fail
                refine bodyPost_ret (v := .agg #[.int .i64 Y.k, .string Y.s, .int .i64 Y.n, .slice ya Y.l.length yc]) (by simp [results, Try.results68, go_sem, q0, q1, q2, q3, q4]) rfl ?_
                refine flex_fin hne0 E8.out B8 k8 BV8 S8.out (fun h => ?_) (fun k hk => ?_) HR8.out ?_
                · rcases h with h | h
                  · exact Nat.lt_irrefl _ h.2
                  · have := cell_lt B6.out; simp at h; omega
                · rcases hk with h | h
                  · exact .inl h.1
                  · exact .inr (Nat.le_trans hwr.out h)
                · rw [hfl3.out, ← HYY.out]; rfl
  · have her' : (er == 0) = false := beq_eq_false_iff_ne.2 her
    rw [if_pos her] at hfl
    have hfail := Lib.hid (invert_fail vb s c la lc H1 w1 f e0 er E1.out.agree BV1.out k1)
    go_wp2_with fail
    refine hfail.out.mono ?_
    rintro e w2 ⟨rfl, X2, C2⟩
    have hz1 : w.heap.size < w1.heap.size := cell_lt B1.out
    have B2 := (X2.block w.heap.size hz1 hne0).trans B1.out
    obtain ⟨q0, q1, q2, q3, q4, q5, q6, q7, q8⟩ := box4 B2
    have E2 := ((E1.out.mono (O' := fun k => k = vb ∨ F k) (fun _ h => h.elim)).trans X2 (fun k hk _ => .inl hk)).store4 n1 (Nat.le_refl _) (.int .i64 0) (.string ⟨#[]⟩) (.int .i64 0) (.slice none 0 0)
    have T : Ext (fun k => k = w.heap.size) H1 w2 H1 ((((w2.setCell ⟨w.heap.size, 0, none⟩ (.int .i64 0)).setCell ⟨w.heap.size, 1, none⟩ (.string ⟨#[]⟩)).setCell ⟨w.heap.size, 2, none⟩ (.int .i64 0)).setCell ⟨w.heap.size, 3, none⟩ (.slice none 0 0)) :=
      ((((Ext.refl (O := fun k => k = w.heap.size) X2.agree).setCell (p := ⟨w.heap.size, 0, none⟩) n1 (fun _ => rfl) _).setCell (p := ⟨w.heap.size, 1, none⟩) n1 (fun _ => rfl) _).setCell (p := ⟨w.heap.size, 2, none⟩) n1 (fun _ => rfl) _).setCell (p := ⟨w.heap.size, 3, none⟩) n1 (fun _ => rfl) _
    have S2 := ((S1.out.ext X2 (fun k hk hF => by subst hk; exact HTF.out hF)).ext T (fun k hk hF => by subst hk; have := hF.2; omega)).mono (F' := fun k => F k ∨ w.heap.size ≤ k) (fun k hk => .inl hk.1)
    have C3 := (T.block vb (cell_lt C2) (fun h => hne0 h.symm)).trans C2
    go_wp2_with fail
    refine bodyPost_ret (v := .agg #[.int .i64 0, .string ⟨#[]⟩, .int .i64 0, .slice none 0 0]) (by simp [results, Try.results68, go_sem, q0, q1, q2, q3, q4]) rfl ?_
    rw [FlexPost, hfl.out]
    refine ⟨H1, _, rfl, E2, rep_zero H1, ?_, ?_⟩
    · unfold Iv.fail; dsimp only; split
      · rename_i h; rw [if_pos h] at C3; exact C3
      · rename_i h; rw [if_neg h] at C3; exact C3
    · unfold Iv.fail; dsimp only; split <;> exact S2
end Go.Proofs.Ytbdappbmlnpogaa
namespace Go.Proofs.Ytbdappbmlnpogaa
open Go Go.RowKit
set_option maxRecDepth 100000
/-- A bound for the numbers of what is bound in what a store's variables stand for. -/
abbrev DB : Int := 1048576
/-- What an inversion keeps. -/
structure Kept (M : Nat) (v q : Iv) : Prop where
  ok : q.S.Ok M DB
  f : q.f ≤ v.f
  f0 : 0 ≤ v.f → 0 ≤ q.f
  V : q.S.V.length + q.f.toNat ≤ v.S.V.length + v.f.toNat
  T : q.S.T.length + q.f.toNat ≤ v.S.T.length + v.f.toNat
theorem Kept.refl {M : Nat} {v : Iv} (h : v.S.Ok M DB) : Kept M v v := ⟨h, Int.le_refl _, id, Nat.le_refl _, Nat.le_refl _⟩
theorem Kept.trans {M : Nat} {v q r : Iv} (h : Kept M v q) (h' : Kept M q r) : Kept M v r :=
  ⟨h'.ok, Int.le_trans h'.f h.f, fun h0 => h'.f0 (h.f0 h0), Nat.le_trans h'.V h.V, Nat.le_trans h'.T h.T⟩
theorem Kept.fail {M : Nat} {v q : Iv} (h : Kept M v q) (e : Int) : Kept M v (q.fail e).2 := by
  unfold Iv.fail
  dsimp only
  split
  · exact ⟨h.ok, h.f, h.f0, h.V, h.T⟩
  · exact h
theorem bnd_lamsN {B : Int} (n : Nat) : ∀ t : Tm, t.bnd B = true → (Tm.lamsN n t).bnd B = true := by
  induction n with
  | zero => intro t h; exact h
  | succ n ih => intro t h; rw [Tm.lamsN]; exact ih _ ((Tm.bnd_iff ..).2 ⟨by simp, by simpa using h⟩)
namespace St
theorem fresh_ok {S : St} {M : Nat} {B : Int} (h : S.Ok M B) (lv : Int) : (S.fresh lv).Ok M B :=
  ⟨h.1, fun i hi hb => by
    unfold fresh at hi
    rcases List.mem_append.1 hi with hi | hi
    · exact h.2 i hi hb
    · simp at hi; subst hi; cases hb⟩
theorem bind_ok {S : St} {M : Nat} {B : Int} (h : S.Ok M B) (x : Int) (t : Tm) (hs : t.size ≤ M) (hb : t.bnd B = true) : (S.bind x t).1.Ok M B ∧ (S.bind x t).1.V.length = S.V.length ∧ (S.bind x t).1.T.length ≤ S.T.length + 1 := by
  unfold bind
  split
  · exact ⟨h, rfl, Nat.le_succ _⟩
  · rename_i hc
    refine ⟨⟨h.1, fun i hi hbd => ?_⟩, by simp, by simp⟩
    rcases List.mem_or_eq_of_mem_set hi with hi | rfl
    · exact h.2 i hi hbd
    · refine ⟨?_, hs, hb⟩
      cases hv : t.valid with
      | true => rfl
      | false => exact absurd (.inr (.inr (.inl hv))) hc
theorem hang_ok {S : St} {M : Nat} {B : Int} (h : S.Ok M B) (x lv n : Int) (on : List Tm) (hs : (Tm.lams n (Tm.apply (leafT 4 S.V.length) on)).size ≤ M) (hb : ∀ u ∈ on, u.bnd B = true) :
    (S.hang x lv n on).2.Ok M B ∧ (S.hang x lv n on).2.V.length = S.V.length + 1 ∧ (S.hang x lv n on).2.T.length ≤ S.T.length + 1 := by
  have hbd : (Tm.lams n (Tm.apply (leafT 4 S.V.length) on)).bnd B = true := bnd_lamsN _ _ (Tm.bnd_apply ((Tm.bnd_iff ..).2 ⟨by simp, by simp⟩) hb)
  obtain ⟨h1, h2, h3⟩ := bind_ok (fresh_ok h lv) x _ hs hbd
  refine ⟨h1, ?_, ?_⟩
  · show ((S.fresh lv).bind x _).1.V.length = _
    rw [h2]; unfold fresh; simp
  · exact Nat.le_trans h3 (by unfold fresh; simp)
/-- What Head gives where there is no error. -/
theorem Head_fit {S : St} {M : Nat} {B : Int} {t : Tm} {f : Int} (hok : S.Ok M B) (hv : t.valid = true) (hb : t.bnd B = true) (hf : 0 ≤ f) (hsz : t.size + f.toNat * M ≤ SB) (hB : B + f.toNat * SB ≤ Tm.far) (he : (S.Head t f).2.2 = 0) :
    0 ≤ (S.Head t f).2.1 ∧ (S.Head t f).2.1 ≤ f ∧ (S.Head t f).1.valid = true ∧ (S.Head t f).1.bnd (B + (f.toNat - (S.Head t f).2.1.toNat : Nat) * SB) = true ∧ (S.Head t f).1.size + (S.Head t f).2.1.toNat * M ≤ t.size + f.toNat * M := by
  unfold Head runV at he ⊢
  rw [if_neg (by simp [hv])] at he ⊢
  split at he
  · rename_i h; exact absurd he h
  · rename_i h
    rw [if_neg h]
    have h := head_ok hok hv hb hsz hB (by simpa using h)
    exact ⟨h.nn hf, h.le, h.v, h.b, h.sz⟩
end St
theorem split_fit {Z : Nat} {B : Int} {t : Tm} (h : Tm.Fit Z B t) : Tm.Fit Z B t.split.1 ∧ (∀ u ∈ t.split.2, Tm.Fit Z B u) ∧ t.split.2.length < t.size ∧ (t.split.1.k = 6 → t.split.1.l ≠ []) := by
  unfold Tm.split
  cases t with
  | mk k s n l =>
    split
    · refine ⟨h, by simp, Tm.size_pos _, fun h6 => ?_⟩
      dsimp only at h6 ⊢
      simp only [Tm.k_mk] at h6
      subst h6
      have := (Tm.ok1_app.1 ((Tm.valid_iff ..).1 h.v).1).2.2.1
      intro h0
      simp only [Tm.l_mk] at h0
      rw [h0] at this
      simp at this
    · rename_i hk
      have h6 : k = 6 := by
        by_cases h6 : k = 6
        · exact h6
        · exact absurd (.inl (by simpa using h6)) hk
      subst h6
      obtain ⟨-, -, hl, hh⟩ := Tm.ok1_app.1 ((Tm.valid_iff ..).1 h.v).1
      cases l with
      | nil => simp at hl
      | cons x xs =>
        simp only [Tm.l_mk, List.getD_cons_zero, List.drop_succ_cons, List.drop_zero] at hh ⊢
        refine ⟨h.mem (by simp), fun u hu => h.mem (by simp [hu]), ?_, fun h6 => absurd h6 (by simpa using hh)⟩
        have := Tm.length_lt 6 s n (x :: xs)
        simp only [List.length_cons] at this
        omega
namespace Ic
theorem flexA_bnd (c : Ic) (k n : Int) (hn : n ≤ DB) (l : List Tm) : ∀ i, 0 ≤ i → ∀ u ∈ (flexA c k n l i).1, u.bnd DB = true := by
  induction l with
  | nil => intro i _ u hu; simp [flexA] at hu
  | cons x xs ih =>
    intro i hi u hu
    rw [flexA] at hu
    split at hu
    · rcases List.mem_cons.1 hu with rfl | hu
      · exact (Tm.bnd_iff ..).2 ⟨fun _ => by omega, by simp⟩
      · exact ih (i + 1) (by omega) u hu
    · exact ih (i + 1) (by omega) u hu
theorem flexB_bnd (c : Ic) (k lv : Int) (l : List Tm) (hl : ∀ u ∈ l, u.isLeaf = true) : ∀ i, ∀ u ∈ (flexB c k lv l i).1, u.bnd DB = true := by
  induction l with
  | nil => intro i u hu; simp [flexB] at hu
  | cons x xs ih =>
    intro i u hu
    have ih := ih (fun u hu => hl u (by simp [hu]))
    rw [flexB] at hu
    split at hu
    · rename_i hc
      rcases List.mem_cons.1 hu with rfl | hu
      · have hlf := hl u (by simp)
        unfold Tm.isLeaf at hlf
        cases u with
        | mk k s n l =>
          simp only [Tm.k_mk] at hc
          have hk := hc.2.1
          subst hk
          simp only [Bool.and_eq_true] at hlf
          have h0 := Tm.ok1_leaf ((Tm.valid_iff ..).1 hlf.1).1 (by omega) (by omega)
          subst h0
          exact (Tm.bnd_iff ..).2 ⟨by simp, by simp⟩
      · exact ih (i + 1) u hu
    · exact ih (i + 1) u hu
theorem flex_kept {c : Ic} {M : Nat} (hL : ∀ u ∈ c.L, u.isLeaf = true) {v : Iv} {y : Int} {l : List Tm} {k : Int} (hok : v.S.Ok M DB) (hf : 0 ≤ v.f) (hM : 2 * v.f.toNat + c.L.length + 4 ≤ M) (hD : v.f ≤ DB) :
    let q := (flex c v y l k).2
    q.S.Ok M DB ∧ q.f ≤ v.f ∧ 0 ≤ q.f ∧ q.S.V.length ≤ v.S.V.length + 1 ∧ q.S.T.length ≤ v.S.T.length + 1 := by
  unfold flex
  dsimp only
  split
  · rename_i he
    have := (Kept.refl (v := v) hok).fail (v.S.args y l v.f).2.2
    refine ⟨this.ok, this.f, this.f0 hf, ?_, ?_⟩
    · unfold Iv.fail; dsimp only; split <;> exact Nat.le_succ _
    · unfold Iv.fail; dsimp only; split <;> exact Nat.le_succ _
  · rename_i he
    obtain ⟨h1, h2, h3⟩ := St.args_fuel v.S y l v.f hf (by simpa using he)
    split
    · exact ⟨hok, by dsimp only; omega, h2, Nat.le_succ _, Nat.le_succ _⟩
    · have hA := flexA_len c k (v.S.args y l v.f).1.length (v.S.args y l v.f).1 0
      have hB := flexB_len c k (v.S.info y).1.lv c.L hL 0
      have hap := (Tm.apply_size (leafT 4 v.S.V.length) ((flexA c k (v.S.args y l v.f).1.length (v.S.args y l v.f).1 0).1 ++ (flexB c k (v.S.info y).1.lv c.L 0).1)).1
      have hla := lams_size (v.S.args y l v.f).1.length (Tm.apply (leafT 4 v.S.V.length) ((flexA c k (v.S.args y l v.f).1.length (v.S.args y l v.f).1 0).1 ++ (flexB c k (v.S.info y).1.lv c.L 0).1))
      rw [size_leafT, Tm.sizeL_append] at hap
      obtain ⟨g1, g2, g3⟩ := St.hang_ok (S := v.S) hok y (if c.lv < (v.S.info y).1.lv then c.lv else (v.S.info y).1.lv) (v.S.args y l v.f).1.length _ (by unfold Tm.lams; simp only [Int.toNat_natCast]; rw [hla]; omega) (fun u hu => by
        rcases List.mem_append.1 hu with hu | hu
        · exact flexA_bnd c k _ (by omega) _ 0 (Int.le_refl _) u hu
        · exact flexB_bnd c k _ _ hL 0 u hu)
      exact ⟨g1, by dsimp only; omega, h2, by rw [g2]; exact Nat.le_refl _, g3⟩
end Ic
end Go.Proofs.Ytbdappbmlnpogaa
namespace Go.Proofs.Ytbdappbmlnpogaa
open Go Go.RowKit
set_option maxRecDepth 100000
/-- What is asked of a term that is gone through. -/
structure Ask (c : Ic) (M : Nat) (v : Iv) (t : Tm) (B : Int) : Prop where
  ok : v.S.Ok M DB
  hM : 2 * v.f.toNat + c.L.length + 4 ≤ M
  hD : v.f ≤ DB
  tv : t.valid = true
  tb : t.bnd B = true
  dB : DB ≤ B
  sz : t.size + v.f.toNat * M + M ≤ SB
  far : B + v.f.toNat * SB + SB ≤ Tm.far
  V : v.S.V.length + v.f.toNat ≤ 1073741824
  T : v.S.T.length + v.f.toNat ≤ 1073741824
theorem Ask.kept {c : Ic} {M : Nat} {v q : Iv} {t : Tm} {B : Int} (h : Ask c M v t B) (k : Kept M v q) : Ask c M q t B := by
  have h1 : q.f.toNat ≤ v.f.toNat := by have := k.f; omega
  have h2 : q.f.toNat * M ≤ v.f.toNat * M := Nat.mul_le_mul_right _ h1
  have h3 : (q.f.toNat : Int) * SB ≤ v.f.toNat * SB := Int.mul_le_mul_of_nonneg_right (by omega) (by omega)
  have := h.hM; have := h.sz; have := h.far; have := h.V; have := h.T; have := h.hD; have := k.V; have := k.T; have := k.f
  exact ⟨k.ok, by omega, by omega, h.tv, h.tb, h.dB, by omega, by omega, by omega, by omega⟩
theorem Ask.part {c : Ic} {M : Nat} {v : Iv} {t u : Tm} {B : Int} (h : Ask c M v t B) (hu : Tm.Fit t.size B u) : Ask c M v u B :=
  ⟨h.ok, h.hM, h.hD, hu.v, hu.b, h.dB, by have := h.sz; have := hu.s; omega, h.far, h.V, h.T⟩
theorem Ask.fit {c : Ic} {M : Nat} {v : Iv} {t : Tm} {B : Int} (h : Ask c M v t B) : Tm.Fit t.size B t := ⟨h.tv, Nat.le_refl _, h.tb⟩
/-- Behind the head's steps. -/
theorem Ask.head {c : Ic} {M : Nat} {v : Iv} {t : Tm} {B : Int} (h : Ask c M v t B) (hf : 0 < v.f) (he : (v.S.Head t (v.f - 1)).2.2 = 0) :
    Kept M v { v with f := (v.S.Head t (v.f - 1)).2.1 } ∧ (v.S.Head t (v.f - 1)).2.1 + 1 ≤ v.f ∧ 0 ≤ (v.S.Head t (v.f - 1)).2.1 ∧ Ask c M { v with f := (v.S.Head t (v.f - 1)).2.1 } (v.S.Head t (v.f - 1)).1 (B + ((v.f - 1).toNat - (v.S.Head t (v.f - 1)).2.1.toNat : Nat) * SB) := by
  have hM : v.f.toNat * M = (v.f - 1).toNat * M + M := by rw [show v.f.toNat = (v.f - 1).toNat + 1 by omega, Nat.succ_mul]
  have hSB : (v.f.toNat : Int) * SB = ((v.f - 1).toNat : Int) * SB + SB := by
    rw [show v.f.toNat = (v.f - 1).toNat + 1 by omega]
    push_cast
    rw [Int.add_mul]
    omega
  have a1 := h.sz; have a2 := h.far; have a3 := h.hM; have a4 := h.V; have a5 := h.T; have a6 := h.hD; have a7 := h.dB
  obtain ⟨h1, h2, h3, h4, h5⟩ := St.Head_fit (f := v.f - 1) (h.ok.mono h.dB) h.tv h.tb (by omega) (by omega) (by omega) he
  have h6 := St.toNat_sub_mul (v.f - 1).toNat (v.S.Head t (v.f - 1)).2.1.toNat (by omega) SB
  have h7 : (0 : Int) ≤ ((v.f - 1).toNat - (v.S.Head t (v.f - 1)).2.1.toNat : Nat) * SB := Int.mul_nonneg (by omega) (by omega)
  refine ⟨⟨h.ok, by dsimp only; omega, fun _ => h1, by dsimp only; omega, by dsimp only; omega⟩, by omega, h1, ⟨h.ok, by dsimp only; omega, by dsimp only; omega, h3, h4, by omega, by dsimp only; omega, by dsimp only; omega, by dsimp only; omega, by dsimp only; omega⟩⟩
namespace Ic
theorem mapV_kept {c : Ic} {M : Nat} {B : Int} {g : Iv → Tm → Tm × Iv} {n : Nat} (hg : ∀ v t, v.f.toNat ≤ n → Ask c M v t B → Kept M v (g v t).2) : ∀ (l : List Tm) (v : Iv), v.f.toNat ≤ n → v.S.Ok M DB → (∀ u ∈ l, Ask c M v u B) → Kept M v (mapV g v l).2 := by
  intro l
  induction l with
  | nil => intro v _ hok _; exact Kept.refl hok
  | cons x xs ih =>
    intro v hn hok hl
    rw [mapV]
    have k1 := hg v x hn (hl x (by simp))
    exact k1.trans (ih _ (by have := k1.f; omega) k1.ok fun u hu => (hl u (by simp [hu])).kept k1)
theorem termF_kept {c : Ic} {M : Nat} (hL : ∀ u ∈ c.L, u.isLeaf = true) : ∀ (m : Nat) (v : Iv) (t : Tm) (k B : Int), v.f.toNat ≤ m → Ask c M v t B → Kept M v (termF c m v t k).2 := by
  intro m
  induction m with
  | zero =>
    intro v t k B _ h
    rw [termF]
    split
    · exact Kept.refl h.ok
    · exact (Kept.refl h.ok).fail _
  | succ m ih =>
    intro v t k B hm h
    rw [termF]
    split
    · exact Kept.refl h.ok
    · split
      · exact (Kept.refl h.ok).fail _
      · rename_i hf
        dsimp only
        split
        · exact (Kept.refl h.ok).fail _
        · rename_i he
          obtain ⟨k1, h2, h3, a1⟩ := h.head (by omega) (by simpa using he)
          generalize B + ((v.f - 1).toNat - (v.S.Head t (v.f - 1)).2.1.toNat : Nat) * SB = B1 at a1
          obtain ⟨s1, s2, s3, s4⟩ := split_fit a1.fit
          split
          · rename_i h5
            refine k1.trans (ih _ _ _ B1 (by dsimp only; omega) (a1.part ?_))
            generalize (v.S.Head t (v.f - 1)).1.split.1 = hd at *
            cases hd with
            | mk hk hs hn hl =>
              simp only [Tm.k_mk] at h5
              subst h5
              obtain ⟨-, -, h1l⟩ := Tm.ok1_lam.1 ((Tm.valid_iff ..).1 s1.v).1
              obtain ⟨b, rfl⟩ := List.length_eq_one_iff.1 h1l
              exact s1.mem (by simp)
          · split
            · split
              · split
                · exact k1.fail _
                · exact k1.fail _
              · obtain ⟨b1, b2, b3, b4, b5⟩ := flex_kept hL (v := { v with f := (v.S.Head t (v.f - 1)).2.1 }) (y := (v.S.Head t (v.f - 1)).1.split.1.n) (l := (v.S.Head t (v.f - 1)).1.split.2) (k := k) a1.ok h3 a1.hM a1.hD
                dsimp only at b2 b4 b5
                exact ⟨b1, by omega, fun _ => b3, by omega, by omega⟩
            · have kk := k1.trans (mapV_kept (n := m) (B := B1) (fun v t hn ha => ih v t k B1 hn ha) (v.S.Head t (v.f - 1)).1.split.2 _ (by dsimp only; omega) a1.ok fun u hu => a1.part (s2 u hu))
              split
              · split
                · exact k1.fail _
                · exact kk
              · split
                · exact k1.fail _
                · exact kk
end Ic
end Go.Proofs.Ytbdappbmlnpogaa
namespace Go.Proofs.Ytbdappbmlnpogaa
open Go Go.RowKit
set_option maxRecDepth 100000
theorem term_fin {F G : Nat → Prop} {vb s : Nat} {c : Ic} {la : Option Addr} {lc : Nat} {H H7 : GH} {w w7 : World} {Y : Tm} {ya : Option Addr} {yc : Nat} {S' : St} {f e : Int} {r : Tm × Iv} {rb : Nat} (hrb : w.heap.size ≤ rb) (hvb : vb < w.heap.size) (E : Ext (fun k => k = vb ∨ F k) H w H7 w7) (n7 : H7 rb = none)
    (BV : w7.heap[vb]? = some (ivbox s c la lc f e)) (hS : StAt H7 w7 G s S') (hG : ¬ G rb) (hGF : ∀ k, G k → F k ∨ w.heap.size ≤ k) (hR : Rep H7 Y (tcells Y ya yc).toList) (hr : r = (Y, ⟨S', f, e⟩)) :
    FlexPost F vb s c la lc H w r (.returned (.agg #[.int .i64 Y.k, .string Y.s, .int .i64 Y.n, .slice ya Y.l.length yc])) ((((w7.setCell ⟨rb, 0, none⟩ (.int .i64 Y.k)).setCell ⟨rb, 1, none⟩ (.string Y.s)).setCell ⟨rb, 2, none⟩ (.int .i64 Y.n)).setCell ⟨rb, 3, none⟩ (.slice ya Y.l.length yc)) := by
  subst hr
  have T : Ext (fun k => k = rb) H7 w7 H7 ((((w7.setCell ⟨rb, 0, none⟩ (.int .i64 Y.k)).setCell ⟨rb, 1, none⟩ (.string Y.s)).setCell ⟨rb, 2, none⟩ (.int .i64 Y.n)).setCell ⟨rb, 3, none⟩ (.slice ya Y.l.length yc)) :=
    ((((Ext.refl (O := fun k => k = rb) E.agree).setCell (p := ⟨rb, 0, none⟩) n7 (fun _ => rfl) _).setCell (p := ⟨rb, 1, none⟩) n7 (fun _ => rfl) _).setCell (p := ⟨rb, 2, none⟩) n7 (fun _ => rfl) _).setCell (p := ⟨rb, 3, none⟩) n7 (fun _ => rfl) _
  exact ⟨H7, _, rfl, E.store4 n7 hrb _ _ _ _, hR, (T.block vb (cell_lt BV) (fun h => by omega)).trans BV, (hS.ext T (fun k hk hF => by subst hk; exact hG hF)).mono hGF⟩
/-- The case of an error: no term, and the error is noted. -/
theorem term_err {F G : Nat → Prop} {vb s : Nat} {c : Ic} {la : Option Addr} {lc : Nat} {H H7 : GH} {w w7 w8 : World} {S' : St} {f e er : Int} {r : Tm × Iv} {rb : Nat} (hrb : w.heap.size ≤ rb) (hvb : vb < w.heap.size) (E : Ext (fun k => k = vb ∨ F k) H w H7 w7) (n7 : H7 rb = none) (hvn : H7 vb = none)
    (hS : StAt H7 w7 G s S') (hG : ¬ G rb) (hGv : ¬ G vb) (hGF : ∀ k, G k → F k ∨ w.heap.size ≤ k) (X : Ext (fun k => k = vb) H7 w7 H7 w8) (C : w8.heap[vb]? = some (ivbox s c la lc f (if e = 0 then er else e))) (hr : r = Iv.fail ⟨S', f, e⟩ er) :
    FlexPost F vb s c la lc H w r (.returned (.agg #[.int .i64 0, .string ⟨#[]⟩, .int .i64 0, .slice none 0 0])) ((((w8.setCell ⟨rb, 0, none⟩ (.int .i64 0)).setCell ⟨rb, 1, none⟩ (.string ⟨#[]⟩)).setCell ⟨rb, 2, none⟩ (.int .i64 0)).setCell ⟨rb, 3, none⟩ (.slice none 0 0)) :=
  term_fin (Y := Tm.zero) (ya := none) (yc := 0) hrb hvb (E.trans X (fun k hk _ => .inl hk)) n7 C (hS.ext X (fun k hk hF => by subst hk; exact hGv hF)) hG hGF (rep_zero H7) (by rw [hr]; unfold Iv.fail; dsimp only; split <;> rfl)
/-- A store's own cells stay free where more joins what never changes. -/
theorem StAt.sub {H H' : GH} {w : World} {F : Nat → Prop} {s : Nat} {S : St} (h : StAt H w F s S) (hs : Sub H H') (hF : ∀ k, F k → H' k = H k) : StAt H' w F s S := by
  obtain ⟨vi, vt, h1, h2, h3, h4, h5, h6, h7⟩ := h
  exact ⟨vi, vt, h1, (hF s h3).trans h2, h3, h4.sub (fun g hg => (hF g (h6 g hg).1).trans (h4.free g hg)) (fun _ _ h => h.mono hs), h5.sub (fun g hg => (hF g (h7 g hg).1).trans (h5.free g hg)) (fun _ _ h => h), h6, h7⟩
/-- What term is asked, at a depth. -/
def TermAt (vb s : Nat) (c : Ic) (la : Option Addr) (lc M m : Nat) : Prop :=
  ∀ (F : Nat → Prop) (H : GH) (w : World) (S : St) (t : Tm) (cs : List Value) (k f e B : Int), f.toNat ≤ m → Agree H w → w.heap[vb]? = some (ivbox s c la lc f e) → H vb = none → ¬ F vb → StAt H w F s S → Tms H (.slice la c.L.length lc) c.L → Rep H t cs → Ask c M ⟨S, f, e⟩ t B → 0 ≤ k → k + f.toNat ≤ 1099511627776 → I64 f →
    Calls Try.prog 43 #[.pointer (some ⟨vb, 0, none⟩), .agg cs.toArray, .int .i64 k] w (FlexPost F vb s c la lc H w (c.termF m ⟨S, f, e⟩ t k))
theorem termF_stop {c : Ic} {m : Nat} {S : St} {f e k : Int} {t : Tm} (h : e ≠ 0 ∨ f ≤ 0) (hm : f.toNat ≤ m) : c.termF m ⟨S, f, e⟩ t k = if e ≠ 0 then (Tm.zero, ⟨S, f, e⟩) else Iv.fail ⟨S, f, e⟩ 80 := by
  cases m with
  | zero => rw [Ic.termF]
  | succ m =>
    rw [Ic.termF]
    by_cases he : e = 0
    · subst he
      have hf : f ≤ 0 := by rcases h with h | h; exact absurd rfl h; exact h
      simp [hf]
    · simp [he]
set_option maxHeartbeats 8000000 in
theorem invert_term_stop {F : Nat → Prop} (vb s : Nat) (c : Ic) (la : Option Addr) (lc m : Nat) (H : GH) (w : World) (S : St) (t : Tm) (cs : List Value) (k f e : Int) (hm : f.toNat ≤ m) (hA : Agree H w) (hvb : w.heap[vb]? = some (ivbox s c la lc f e)) (hH : H vb = none) (hvF : ¬ F vb) (hS : StAt H w F s S) (hR : Rep H t cs) (hst : e ≠ 0 ∨ f ≤ 0) :
    Calls Try.prog 43 #[.pointer (some ⟨vb, 0, none⟩), .agg cs.toArray, .int .i64 k] w (FlexPost F vb s c la lc H w (c.termF m ⟨S, f, e⟩ t k)) := by
  have ho := Lib.hid (termF_stop (c := c) (S := S) (k := k) (t := t) hst hm)
  obtain ⟨a, cap, rfl, -, -, -, -⟩ := hR.open_
  obtain ⟨E0, B0, B1, hn⟩ := enter1 t a cap H w hA
  have E0 := Lib.hid E0
  have B1 := Lib.hid B1
  have hn := Lib.hid hn
  have BV := Lib.hid (Below.blk (below_alloc _ zbox) (Below.blk (below_alloc _ (tbox t a cap)) hvb))
  have hz := cell_lt hvb
  have ST := Lib.hid (hS.tight.pure E0.out)
  obtain ⟨v0, v1, v2, v3, v4, v5, v6⟩ := box6 BV.out
  have hne : w.heap.size ≠ vb := by omega
  have hne1 : w.heap.size + 1 ≠ vb := by omega
  clear hR hS B0
  cases he : (e == 0) with
  | false =>
    have he1 : ¬ e = 0 := beq_eq_false_iff_ne.1 he
    rw [if_pos he1] at ho
    have he2 : (e != 0) = true := by rw [bne, he]; rfl
    clear he1 hst
    go_enter Try.func43, Try.ntmps43
    go_wp2_with fail
    refine bodyPost_ret (v := .agg #[.int .i64 0, .string ⟨#[]⟩, .int .i64 0, .slice none 0 0]) (by simp [results, Try.results43, go_sem]) rfl ?_
    rw [FlexPost, ho.out]
    exact ⟨H, _, rfl, E0.out.mono (fun _ h => h.elim), rep_zero H, BV.out, ST.out.mono (fun k hk => .inl hk.1)⟩
  | true =>
    have he1 : e = 0 := beq_iff_eq.1 he
    subst he1
    have hf : f ≤ 0 := by rcases hst with h | h; exact absurd rfl h; exact h
    rw [if_neg (by simp)] at ho
    have hfail := Lib.hid (invert_fail vb s c la lc H _ f 0 80 E0.out.agree BV.out hH)
    go_enter Try.func43, Try.ntmps43
    go_wp2_with fail
    refine hfail.out.mono ?_
    rintro e w2 ⟨rfl, X2, C2⟩
    have B2 := (X2.block (w.heap.size + 1) (cell_lt B1.out) hne1).trans B1.out
    obtain ⟨q0, q1, q2, q3, q4, q5, q6, q7, q8⟩ := box4 B2
    go_wp2_with fail
    refine bodyPost_ret (v := .agg #[.int .i64 0, .string ⟨#[]⟩, .int .i64 0, .slice none 0 0]) (by simp [results, Try.results43, go_sem, q0, q1, q2, q3, q4]) rfl ?_
    exact term_err (Nat.le_succ _) hz (E0.out.mono (fun _ h => h.elim)) hn.out hH ST.out (fun h => by have := h.2; omega) (fun h => hvF h.1) (fun k hk => .inl hk.1) X2 C2 ho.out
end Go.Proofs.Ytbdappbmlnpogaa
