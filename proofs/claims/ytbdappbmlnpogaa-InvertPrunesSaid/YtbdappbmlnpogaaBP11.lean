/- Package invert: term. Package invert: Invert. -/
import Derived.Test.YtbdappbmlnpogaaBP10
import Derived.Deep.CutBlock
namespace Go.Proofs.Ytbdappbmlnpogaa
open Go Go.RowKit
set_option maxRecDepth 100000
def TermMid (H : GH) (w : World) (r : Tm × Int × Int) (v7 v8 : Value) (wx : World) : Prop :=
  ∃ (H1 : GH) (ua : Option Addr) (uc : Nat), v7 = .int .i64 r.2.1 ∧ v8 = .int .i64 r.2.2 ∧ Pure H w H1 wx ∧ Rep H1 r.1 (tcells r.1 ua uc).toList ∧ wx.heap[w.heap.size]? = some (tbox r.1 ua uc) ∧ wx.heap[w.heap.size + 1]? = some zbox ∧ H1 w.heap.size = none ∧ H1 (w.heap.size + 1) = none
theorem lam_body {Z : Nat} {B : Int} {h : Tm} (hf : Tm.Fit Z B h) (h5 : h.k = 5) : ∃ b, h.l = [b] ∧ Tm.Fit Z B b := by
  cases h with
  | mk hk hs hn hl =>
    simp only [Tm.k_mk] at h5
    subst h5
    obtain ⟨-, -, h1l⟩ := Tm.ok1_lam.1 ((Tm.valid_iff ..).1 hf.v).1
    obtain ⟨b, rfl⟩ := List.length_eq_one_iff.1 h1l
    exact ⟨b, rfl, hf.mem (by simp)⟩
/-- What holds behind the switch. -/
def TermHd (c : Ic) (h : Tm) (k : Int) (H2 : GH) (w2 : World) (wx : World) : Prop :=
  ∃ (hh : Tm) (ha : Option Addr) (hc : Nat), h.k ≠ 5 ∧ h.k ≠ 4 ∧ ((h.k = 3 ∨ h.k = 1) → c.image h k = (hh, true)) ∧ (¬ (h.k = 3 ∨ h.k = 1) → hh = h) ∧ Pure H2 w2 H2 wx ∧ Rep H2 hh (tcells hh ha hc).toList ∧ wx.heap[w2.heap.size]? = some (tbox hh ha hc)
theorem image_fst (c : Ic) (h : Tm) (k : Int) : (c.image h k).1 = h ∨ ∃ n, (c.image h k).1 = leafT 3 n := by
  unfold Ic.image
  dsimp only
  repeat' split
  all_goals first | exact .inl rfl | exact .inr ⟨_, rfl⟩
theorem apply_len (f : Tm) (args : List Tm) : (f.apply args).l.length ≤ f.l.length + args.length + 1 := by
  unfold Tm.apply
  split
  · omega
  · split
    · simp
    · simp
/-- What holds at the head of the loop: so many arguments are done. -/
def TermRel (vb s : Nat) (c : Ic) (la : Option Addr) (lc : Nat) (F : Nat → Prop) (M m : Nat) (k : Int) (H : GH) (w : World) (H1 : GH) (bs b9 B0 : Nat) (hh : Tm) (ha : Option Addr) (hc : Nat) (lv : Value) (l : List Tm) (v1 : Iv) (R : List Tm × Iv) (i : Value) (wr : World) : Prop :=
  ∃ (j : Nat) (Hc : GH) (acc : List Tm) (v' : Iv), j ≤ l.length ∧ i = .int .i64 j ∧ acc.length = j ∧ R = (acc ++ (Ic.mapV (fun v t => c.termF m v t k) v' (l.drop j)).1, (Ic.mapV (fun v t => c.termF m v t k) v' (l.drop j)).2) ∧ Kept M v1 v' ∧ Ext (fun k => k = vb ∨ F k) H w Hc wr ∧ B0 ≤ wr.heap.size ∧ Own Hc wr bs 30 4 (Rep Hc) lv (acc ++ l.drop j) ∧
    wr.heap[b9]? = some (tbox hh ha hc) ∧ wr.heap[w.heap.size + 1]? = some zbox ∧ wr.heap[vb]? = some (ivbox s c la lc v'.f v'.e) ∧ StAt Hc wr (fun k => (F k ∧ k < w.heap.size) ∨ B0 ≤ k) s v'.S ∧ Hc vb = none ∧ Hc (w.heap.size + 1) = none ∧ Sub H1 Hc
set_option maxHeartbeats 16000000 in
theorem invert_term_succ (vb s : Nat) (c : Ic) (la : Option Addr) (lc M m : Nat) (hLl : ∀ u ∈ c.L, u.isLeaf = true) (hLn : c.L.length ≤ 1048576) (hcl : I64 c.lv) (hcx : I64 c.x) (ih : TermAt vb s c la lc M m) : TermAt vb s c la lc M (m + 1) := by
  intro F H w S t cs k f e B hm hA hvb hH hvF hS hL hR ask hk0 hk1 hf
  by_cases hst : e ≠ 0 ∨ f ≤ 0
  · exact invert_term_stop vb s c la lc (m + 1) H w S t cs k f e hm hA hvb hH hvF hS hR hst
  have he0 : e = 0 := by
    by_cases h : e = 0
    · exact h
    · exact absurd (.inl h) hst
  have hf0 : 0 < f := by
    by_cases h : f ≤ 0
    · exact absurd (.inr h) hst
    · omega
  subst he0
  clear hst
  have hsp : Hid (c.termF (m + 1) ⟨S, f, 0⟩ t k = _) := Lib.hid (by rw [Ic.termF, if_neg (by simp), if_neg (by dsimp only; omega)])
  have AH := Lib.hid (fun he => ask.head (v := ⟨S, f, 0⟩) hf0 he)
  have HR := Lib.hid hR
  obtain ⟨a, cap, rfl, -, -, -, -⟩ := hR.open_
  obtain ⟨E0, B0, B1, hn1⟩ := enter1 t a cap H w hA
  have hn0 := hA.free (Nat.le_refl _)
  have BV := Below.blk (below_alloc _ zbox) (Below.blk (below_alloc _ (tbox t a cap)) hvb)
  have hz := cell_lt hvb
  have hne : w.heap.size ≠ vb := by omega
  have hne1 : w.heap.size + 1 ≠ vb := by omega
  have HT := Lib.hid hS.tight
  have hf64 := hf
  unfold I64 at hf64
  have hw1 := IntWalk.i64_in (f - 1) (by omega)
  have hM : f.toNat * M = (f - 1).toNat * M + M := by rw [show f.toNat = (f - 1).toNat + 1 by omega, Nat.succ_mul]
  have hSB : (f.toNat : Int) * SB = ((f - 1).toNat : Int) * SB + SB := by
    rw [show f.toNat = (f - 1).toNat + 1 by omega]
    push_cast
    rw [Int.add_mul]
    omega
  have a1 := ask.sz
  have a2 := ask.far
  dsimp only at a1 a2
  have hhead := Lib.hid (store_Head H _ s S M B t (f - 1) _ E0.drew.agree ((HT.out.pure E0).below E0.agree (Below.refl _ _).drew) HR.out (fun _ => ask.tb) (ask.ok.mono ask.dB) (by omega) (by omega) (by unfold I64; omega))
  have E0 := Lib.hid E0
  have B0 := Lib.hid B0
  have B1 := Lib.hid B1
  have BV := Lib.hid BV
  have HIH := Lib.hid ih
  have HASK := Lib.hid ask
  have HL := Lib.hid hL
  have HLL := Lib.hid hLl
  have HM := Lib.hid hm
  generalize hr : S.Head t (f - 1) = r at *
  clear hM hSB a1 a2 hS hL hLl hR ih ask hr hf64 hm
  dsimp only at hsp
  go_enter Try.func43, Try.ntmps43
  obtain ⟨v0, v1, v2, v3, v4, v5, v6⟩ := box6 BV.out
  go_upto_region 5 with fail
  generalize hW0 : (w.alloc (tbox t a cap)).alloc zbox = W0 at *
  clear hW0 v0 v1 v2 v3 v4 v5 v6
  go_cut [7, 8] from 31 (fun v7 v8 wx => TermMid H w r v7 v8 wx)
  case first =>
    obtain ⟨v0, v1, v2, v3, v4, v5, v6⟩ := box6 BV.out
    obtain ⟨p0, p1, p2, p3, p4, p5, p6, p7, p8⟩ := box4 B0.out
    go_region_with ((go_at_call 66; refine hhead.out.mono ?_; rintro e w1 ⟨H1, ucs, rfl, X1, R1⟩; have HR1 := Lib.hid R1; have C0 := Below.blk X1.below B0.out; obtain ⟨ua, uc, rfl, -, -, -, -⟩ := R1.open_; obtain ⟨q0, q1, q2, q3, q4, q5, q6, q7, q8⟩ := box4 C0))
    all_goals
      go_wp2_with fail
      go_meet
      have k0 : H1 w.heap.size = none := (X1.old _ (cell_lt B0.out)).trans hn0
      have k1 : H1 (w.heap.size + 1) = none := (X1.old _ (cell_lt B1.out)).trans hn1
      exact ⟨H1, ua, uc, rfl, rfl, ((E0.out.drew).then X1).store4 k0 (Nat.le_refl _) _ _ _ _, HR1.out, blk_set4 _ _ _ _ C0, (blk_far4 _ _ _ _ (by omega)).trans (Below.blk X1.below B1.out), k0, k1⟩
  case rest =>
    obtain ⟨u, f1, er⟩ := r
    obtain ⟨H1, ua, uc, rfl, rfl, X1, R1, C0, C1, k0, k1⟩ := hcut
    dsimp only at R1 C0 AH hsp
    have E1 := Lib.hid X1
    have BV1 := Lib.hid (Below.blk X1.below hvb)
    have ST1 := Lib.hid (HT.out.pure X1)
    have HL1 := Lib.hid (HL.out.mono X1.sub)
    have kv1 : H1 vb = none := (X1.old _ hz).trans hH
    have HC0 := Lib.hid C0
    have HC1 := Lib.hid C1
    have HR1 := Lib.hid R1
    clear X1 R1 C0 C1 hhead E0 B0 B1 BV HT HL HR hn0 hn1
    by_cases her : er = 0
    · subst her
      rw [if_neg (by simp)] at hsp
      obtain ⟨kp, g2, g3, as1⟩ := AH.out rfl
      generalize B + ((f - 1).toNat - f1.toNat : Nat) * SB = B1 at as1
      obtain ⟨s1, s2, s3, s4⟩ := split_fit as1.fit
      have b1 := as1.sz
      dsimp only at b1 s1 s2 s3 s4 kp as1
      have T0 : Ext (fun k => k = vb) H1 wc H1 (wc.setCell ⟨vb, 4, none⟩ (.int .i64 f1)) := (Ext.refl (O := fun k => k = vb) E1.out.agree).setCell (p := ⟨vb, 4, none⟩) kv1 (fun _ => rfl) _
      have BV2 := Lib.hid (blk6_set4 (u := .int .i64 f1) BV1.out)
      have D0 := Lib.hid ((blk_far1 (.int .i64 f1) (o := 4) hne).trans HC0.out)
      have D1 := Lib.hid ((blk_far1 (.int .i64 f1) (o := 4) hne1).trans HC1.out)
      have ST2 := Lib.hid (ST1.out.ext T0 (fun k hk hF => by subst hk; exact hvF hF.1))
      have E2 := Lib.hid ((E1.out.mono (O' := fun k => k = vb ∨ F k) (fun _ h => h.elim)).trans T0 (fun k hk _ => .inl hk))
      have hspl := Lib.hid (clause_Split u _ H1 _ HR1.out E2.out.agree (by omega))
      obtain ⟨p0, p1, p2, p3, p4, p5, p6, p7, p8⟩ := box4 D0.out
      have hfz := (blk_cells BV1.out 4).2
      have hfc := (box6 BV1.out).2.2.2.2.2.1
      have hvl := cell_lt BV1.out
      have HS1 := Lib.hid s1
      have HS2 := Lib.hid s2
      have HS3 := Lib.hid s3
      have HS4 := Lib.hid s4
      have HAS := Lib.hid as1
      have HKP := Lib.hid kp
      have HG := Lib.hid (show f1 + 1 ≤ f ∧ 0 ≤ f1 ∧ u.size ≤ SB from ⟨g2, g3, by omega⟩)
      generalize hpr : u.split = pr at *
      obtain ⟨h, l⟩ := pr
      dsimp only at hsp
      clear T0 s1 s2 s3 s4 as1 kp g2 g3 b1 AH HC0 HC1 BV1 ST1
      go_wp2_with fail
      refine hspl.out.mono ?_
      unfold SplitPost
      rw [hpr]
      rintro e w2 ⟨hcs, lv, rfl, X2, R2, own2⟩
      dsimp only at R2 own2
      have HR2 := Lib.hid R2
      obtain ⟨ha, hc, rfl, -, -, -, hTl⟩ := R2.open_
      have HTL := Lib.hid hTl
      have k6 : H1 (w.heap.size + 1) = none := (X2.old _ (cell_lt D1.out)).trans k1
      have kv2 : H1 vb = none := (X2.old _ (cell_lt BV2.out)).trans kv1
      have HBS := Lib.hid (show w.heap.size + 1 < (wc.setCell ⟨vb, 4, none⟩ (.int .i64 f1)).heap.size from cell_lt D1.out)
      have HNN := Lib.hid (show I64 h.n from HR2.out.open_.choose_spec.choose_spec.2.2.1)
      have k9 : H1 w2.heap.size = none := X2.agree.free (Nat.le_refl _)
      have D2 := Lib.hid (Below.blk X2.below D1.out)
      have hz9 : w.heap.size + 1 < w2.heap.size := cell_lt D2.out
      have E3 := Lib.hid (E2.out.then X2)
      have E4 := Lib.hid (E3.out.alloc (tbox h ha hc))
      have X4 := Lib.hid ((Ext.refl (O := fun _ => False) E3.out.agree).alloc (tbox h ha hc))
      have BV3 := Lib.hid (Below.blk (below_alloc w2 (tbox h ha hc)) (Below.blk X2.below BV2.out))
      have D3 := Lib.hid (Below.blk (below_alloc w2 (tbox h ha hc)) D2.out)
      have B9 := Lib.hid (heap_alloc_new w2 (tbox h ha hc))
      have ST3 := Lib.hid ((ST2.out.pure X2).below E3.out.agree (below_alloc w2 (tbox h ha hc)))
      have OW3 := Lib.hid (own2.alloc (tbox h ha hc))
      have OW2 := Lib.hid own2
      have BV2w := Lib.hid (Below.blk X2.below BV2.out)
      have ST2w := Lib.hid (ST2.out.pure X2)
      have HL3 := Lib.hid (HL1.out.mono X2.sub)
      have HRL := Lib.hid own2.form
      obtain ⟨lva, lvc, rfl, -, -⟩ := own2.form
      clear hspl R2 X2 own2 hTl D0 D1 BV2 ST2 E2 p0 p1 p2 p3 p4 p5 p6 p7 p8 hfz hfc hvl HR1 E1 HL1 HRL
      generalize hbse : (wc.setCell ⟨vb, 4, none⟩ (.int .i64 f1)).heap.size = bs at *
      clear hbse
      go_upto_block 0 with fail
      generalize hW3 : w2.alloc (tbox h ha hc) = W3 at *
      have HWS := Lib.hid (show W3.heap.size = w2.heap.size + 1 by rw [← hW3]; simp)
      clear hW3
      go_cut [14, 15] from 62 (fun v14 v15 wx => TermHd c h k H1 w2 wx)
      case first =>
        obtain ⟨p0, p1, p2, p3, p4, p5, p6, p7, p8⟩ := box4 B9.out
        cases h5 : (h.k == 5) with
        | true =>
          have h5' : h.k = 5 := beq_iff_eq.1 h5
          rw [if_pos h5'] at hsp
          obtain ⟨b, hb, hfb⟩ := lam_body HS1.out h5'
          have hTl := HTL.out
          have hln : h.l.length = 1 := by rw [hb]; rfl
          obtain ⟨gb, go, bcs, hag, -, hRb, hcell⟩ := hTl.get (i := 0) (x := b) (by rw [hb]; rfl)
          subst hag
          have hkk : (k : Int) + 1 + f1.toNat ≤ 1099511627776 := by have := HG.out; omega
          have hgb : h.l.getD 0 Tm.zero = b := by rw [hb]; rfl
          rw [hgb] at hsp
          have hrec := Lib.hid (HIH.out (fun k => F k ∧ k < w.heap.size) H1 W3 S b bcs (k + 1) f1 0 B1 (by have := HG.out; have := HM.out; omega) E4.out.agree BV3.out kv2 (fun h => hvF h.1) ST3.out HL3.out hRb (HAS.out.part hfb) (by omega) hkk (by have := HG.out; unfold I64 at hf ⊢; omega))
          generalize hq : c.termF m ⟨S, f1, 0⟩ b (k + 1) = q at *
          obtain ⟨qt, qS, qf, qe⟩ := q
          dsimp only at hsp
          obtain ⟨ba, bc, rfl, -, -, -, -⟩ := hRb.open_
          have c0 := E4.out.agree.cell (hcell 0 _ rfl)
          have c1 := E4.out.agree.cell (hcell 1 _ rfl)
          have c2 := E4.out.agree.cell (hcell 2 _ rfl)
          have c3 := E4.out.agree.cell (hcell 3 _ rfl)
          simp only [Nat.add_zero, Nat.zero_mul, Nat.zero_add] at c0 c1 c2 c3
          have hbl := World.block_lt_of_cell? W3 _ c0
          have hw2 := IntWalk.i64_in (k + 1) (by omega)
          have e1 : (0 : Int) < (h.l.length : Int) := by omega
          have e2 : 0 < h.l.length := by omega
          clear hTl hb hgb hcell hRb hfb h5' hln
          go_wp2_with fail
          refine hrec.out.mono ?_
          unfold FlexPost
          rintro e w4 ⟨H4, cs4, rfl, X4', R4, BV4, ST4⟩
          dsimp only at R4 BV4 ST4
          have hlm := Lib.hid (term_Lams 1 qt cs4 H4 w4 (by unfold LB; omega) X4'.agree R4)
          have D4 := (X4'.block (w.heap.size + 1) (cell_lt D3.out) (fun h => h.elim hne1 (fun h => by have := h.2; omega))).trans D3.out
          have k7 : H4 (w.heap.size + 1) = none := (X4'.old _ (cell_lt D3.out)).trans k6
          obtain ⟨xa, xc, rfl, -, -, -, -⟩ := R4.open_
          go_wp2_with fail
          refine hlm.out.mono ?_
          rintro e w5 ⟨H5, cs5, rfl, X5, R5⟩
          have HR5 := Lib.hid R5
          have D5 := Below.blk X5.below D4
          obtain ⟨q0, q1, q2, q3, q4, q5, q6, q7, q8⟩ := box4 D5
          have k8 := (X5.old _ (cell_lt D4)).trans k7
          have E5 := Lib.hid ((E4.out.trans X4' (fun k hk _ => hk.elim .inl (fun h => .inr h.1))).then X5)
          have BV5 := Lib.hid (Below.blk X5.below BV4)
          have ST5 := Lib.hid (ST4.pure X5)
          generalize hY : Tm.lams 1 qt = Y at *
          obtain ⟨ya, yc, rfl, -, -, -, -⟩ := R5.open_
          clear R5 X5 X4' hlm ST4
          go_wp2_with fail
          refine bodyPost_ret (v := .agg #[.int .i64 Y.k, .string Y.s, .int .i64 Y.n, .slice ya Y.l.length yc]) (by simp [results, Try.results43, go_sem, q0, q1, q2, q3, q4]) rfl ?_
          exact term_fin (Nat.le_succ _) hz E5.out k8 BV5.out ST5.out (fun h => h.elim (fun h => by have := h.2; omega) (fun h => by have := HWS.out; omega)) (fun k hk => hk.elim (fun h => .inl h.1) (fun h => .inr (by have := HWS.out; omega))) HR5.out hsp.out
        | false =>
          have h5' : ¬ h.k = 5 := beq_eq_false_iff_ne.1 h5
          rw [if_neg h5'] at hsp
          have H5' := Lib.hid h5'
          clear h5'
          cases h4 : (h.k == 4) with
          | true =>
            have h4' : h.k = 4 := beq_iff_eq.1 h4
            rw [if_pos h4'] at hsp
            clear h4'
            have hbs := HBS.out
            obtain ⟨H3, E5, hs3, ho3, hT3⟩ := OW3.out.freeze_ext E4.out (by omega) (fun _ _ h => h.len)
            have hT3 : Tms H3 _ l := Sl.mono (Sub.refl _) (fun _ _ _ h => Rep.mono hs3 h) hT3
            have kv3 : H3 vb = none := (ho3 _ (by omega)).trans kv2
            have k7 : H3 (w.heap.size + 1) = none := (ho3 _ (by omega)).trans k6
            have ST5 := Lib.hid (ST3.out.sub hs3 (fun k hk => ho3 k (by have := hk.2; omega)))
            have E5 := Lib.hid E5
            have HT3 := Lib.hid hT3
            have HL5 := Lib.hid (HL3.out.mono hs3)
            have ask1 := HAS.out
            have a1 := ask1.sz
            have a2 := ask1.far
            have a3 := ask1.hD
            have a4 := ask1.V
            have a5 := ask1.T
            dsimp only at a1 a2 a3 a4 a5
            have hg := HG.out
            have hl3 := HS3.out
            have hss : SB = 1073741824 := rfl
            have hsz : ∀ x ∈ l, x.size + f1.toNat * M + M ≤ SB := fun x hx => by have := (HS2.out x hx).s; omega
            have hlb : l.length ≤ 1073741824 := by omega
            have hf1 : I64 f1 := by unfold I64 at hf ⊢; omega
            obtain ⟨v0, v1, v2, v3, v4, v5, v6⟩ := box6 BV3.out
            have hargs := Lib.hid (fun W (hW : Below W3.heap.size W3 W) => invert_Args H3 W s S M B1 h.n l _ f1 (E5.out.agree.below hW) (ST5.out.below E5.out.agree hW) HT3.out hlb (fun x hx _ => (HS2.out x hx).b) (ask1.ok.mono ask1.dB) hsz a2 hf1)
            have hflex := Lib.hid (fun W (hW : Below W3.heap.size W3 W) => invert_flex vb s c la lc H3 W S M B1 h.n l _ k f1 0 (E5.out.agree.below hW) (Below.blk hW BV3.out) kv3 (fun h => hvF h.1) (ST5.out.below E5.out.agree hW) HL5.out HLL.out hLn hcl HNN.out HT3.out hlb (fun x hx _ => (HS2.out x hx).b) (ask1.ok.mono ask1.dB) hsz a2 hg.2.1 a3 hk0 (by omega) (by omega) (by omega))
            clear ask1 a1 a2 a3 a4 a5 hl3 hss hsz hlb hs3 ho3 hT3
            by_cases hx : h.n = c.x
            · rw [if_pos hx] at hsp
              have hE : (h.n == c.x) = true := beq_iff_eq.2 hx
              have hE2 : decide (h.n = c.x) = true := decide_eq_true hx
              clear hx hflex
              generalize hr2 : S.args h.n l f1 = r2 at *
              obtain ⟨l2, f2, er2⟩ := r2
              dsimp only at hsp
              clear hr2
              go_wp2_with fail
              go_quiet (fail)
              go_wp2_with fail
              have hbW : Below W3.heap.size W3 (W3.drewN nq) := below_drewN (Below.refl _ _) nq
              generalize hWX : W3.drewN nq = WX at *
              clear hWX v0 v1 v2 v3 v4 v5 v6 p0 p1 p2 p3 p4 p5 p6 p7 p8
              have HB := hbW.drew
              have BVx := Lib.hid (Below.blk HB BV3.out)
              have B9x := Lib.hid (Below.blk HB B9.out)
              have D3x := Lib.hid (Below.blk HB D3.out)
              have K1 : WX.drew.cell? ⟨vb, 0, none⟩ = some (.pointer (some ⟨s, 0, none⟩)) ∧ WX.drew.cell? ⟨vb, 4, none⟩ = some (.int .i64 f1) ∧ WX.drew.cell? ⟨w2.heap.size, 2, none⟩ = some (.int .i64 h.n) := ⟨(iv04 BVx.out).1, (iv04 BVx.out).2, (box4 B9x.out).2.2.2.1⟩
              go_region_held3 (fun w' => w'.cell? ⟨vb, 0, none⟩ = some (.pointer (some ⟨s, 0, none⟩)) ∧ w'.cell? ⟨vb, 4, none⟩ = some (.int .i64 f1) ∧ w'.cell? ⟨w2.heap.size, 2, none⟩ = some (.int .i64 h.n)) (with_reducible (first | exact K1 | exact KJ)) (first | (go_at_call 20; ((with_reducible refine (hargs.out _ HB).mono ?_); rintro e w4 ⟨H4, v4, rfl, X4', T4⟩; have BV4 := Below.blk X4'.below BVx.out; have KJ : w4.cell? ⟨vb, 0, none⟩ = some (.pointer (some ⟨s, 0, none⟩)) ∧ w4.cell? ⟨vb, 4, none⟩ = some (.int .i64 f1) ∧ w4.cell? ⟨w2.heap.size, 2, none⟩ = some (.int .i64 h.n) := ⟨(iv04 BV4).1, (iv04 BV4).2, (box4 (Below.blk X4'.below B9x.out)).2.2.2.1⟩)))
              obtain ⟨v4a, v4c, rfl, -, -⟩ := T4.form
              have D4 := Lib.hid (Below.blk X4'.below D3x.out)
              have k8 : H4 (w.heap.size + 1) = none := (X4'.old _ (cell_lt D3x.out)).trans k7
              have kv4 : H4 vb = none := (X4'.old _ (cell_lt BVx.out)).trans kv3
              have E6 := Lib.hid ((E5.out.then_below HB).then X4')
              have ST6 := Lib.hid ((ST5.out.below E5.out.agree HB).pure X4')
              have HBV4 := Lib.hid BV4
              clear X4' T4 hargs K1 KJ BV4
              by_cases her2 : er2 = 0
              · subst her2
                rw [if_neg (by simp)] at hsp
                have hfail := Lib.hid (invert_fail vb s c la lc H4 _ f1 0 170 E6.out.agree HBV4.out kv4)
                go_wp2_with fail
                refine hfail.out.mono ?_
                rintro e w5 ⟨rfl, X5, C5⟩
                have B5 := (X5.block (w.heap.size + 1) (cell_lt D4.out) hne1).trans D4.out
                obtain ⟨q0, q1, q2, q3, q4, q5, q6, q7, q8⟩ := box4 B5
                go_wp2_with fail
                refine bodyPost_ret (v := .agg #[.int .i64 0, .string ⟨#[]⟩, .int .i64 0, .slice none 0 0]) (by simp [results, Try.results43, go_sem, q0, q1, q2, q3, q4]) rfl ?_
                exact term_err (Nat.le_succ _) hz E6.out k8 kv4 ST6.out (fun h => by have := h.2; omega) (fun h => hvF h.1) (fun k hk => .inl hk.1) X5 C5 hsp.out
              · have her2' : (er2 == 0) = false := beq_eq_false_iff_ne.2 her2
                rw [if_pos her2] at hsp
                have hfail := Lib.hid (invert_fail vb s c la lc H4 _ f1 0 er2 E6.out.agree HBV4.out kv4)
                go_wp2_with fail
                refine hfail.out.mono ?_
                rintro e w5 ⟨rfl, X5, C5⟩
                have B5 := (X5.block (w.heap.size + 1) (cell_lt D4.out) hne1).trans D4.out
                obtain ⟨q0, q1, q2, q3, q4, q5, q6, q7, q8⟩ := box4 B5
                go_wp2_with fail
                refine bodyPost_ret (v := .agg #[.int .i64 0, .string ⟨#[]⟩, .int .i64 0, .slice none 0 0]) (by simp [results, Try.results43, go_sem, q0, q1, q2, q3, q4]) rfl ?_
                exact term_err (Nat.le_succ _) hz E6.out k8 kv4 ST6.out (fun h => by have := h.2; omega) (fun h => hvF h.1) (fun k hk => .inl hk.1) X5 C5 hsp.out
            · rw [if_neg hx] at hsp
              have hE : (h.n == c.x) = false := beq_eq_false_iff_ne.2 hx
              have hE2 : decide (h.n = c.x) = false := decide_eq_false hx
              clear hx hargs
              generalize hq : c.flex ⟨S, f1, 0⟩ h.n l k = q at *
              obtain ⟨Y, qS, qf, qe⟩ := q
              clear hq
              go_wp2_with fail
              go_quiet (fail)
              go_wp2_with fail
              refine (hflex.out _ (below_drewN (Below.refl _ _) _)).mono ?_
              unfold FlexPost
              rintro e w4 ⟨H4, cs4, rfl, X4', R4, BV4, ST4⟩
              dsimp only at R4 BV4 ST4
              have D4 := (X4'.block (w.heap.size + 1) (cell_lt D3.out) (fun h => h.elim hne1 (fun h => by have := h.2; omega))).trans D3.out
              have k8 : H4 (w.heap.size + 1) = none := (X4'.old _ (cell_lt D3.out)).trans k7
              have HR4 := Lib.hid R4
              obtain ⟨ya, yc, rfl, -, -, -, -⟩ := R4.open_
              obtain ⟨q0, q1, q2, q3, q4, q5, q6, q7, q8⟩ := box4 D4
              have E6 := Lib.hid ((E5.out.then_below (below_drewN (Below.refl _ _) nq)).trans X4' (fun k hk _ => hk.elim .inl (fun h => .inr h.1)))
              clear X4' R4 hflex
              go_wp2_with fail
              refine bodyPost_ret (v := .agg #[.int .i64 Y.k, .string Y.s, .int .i64 Y.n, .slice ya Y.l.length yc]) (by simp [results, Try.results43, go_sem, q0, q1, q2, q3, q4]) rfl ?_
              exact term_fin (Nat.le_succ _) hz E6.out k8 BV4 ST4 (fun h => h.elim (fun h => by have := h.2; omega) (fun h => by have := HWS.out; simp at h; omega)) (fun k hk => hk.elim (fun h => .inl h.1) (fun h => .inr (by have := HWS.out; simp at h; omega))) HR4.out hsp.out
          | false =>
            have h4' : ¬ h.k = 4 := beq_eq_false_iff_ne.1 h4
            rw [if_neg h4'] at hsp
            have H4' := Lib.hid h4'
            clear h4'
            have himg := Lib.hid (invert_image vb s c la lc H1 W3 f1 0 h _ k E4.out.agree BV3.out HL3.out HR2.out hk0 (by omega) (by omega))
            have img : ∀ (hk31 : h.k = 3 ∨ h.k = 1), Hid (c.termF (m + 1) ⟨S, f, 0⟩ t k = if (c.image h k).2 = false then Iv.fail ⟨S, f1, 0⟩ 170 else (Tm.apply (c.image h k).1 (Ic.mapV (fun v t => c.termF m v t k) ⟨S, f1, 0⟩ l).1, (Ic.mapV (fun v t => c.termF m v t k) ⟨S, f1, 0⟩ l).2)) := fun hk31 => Lib.hid (by rw [hsp.out]; simp only [if_pos hk31])
            have IMG := Lib.hid img
            clear img
            cases h3 : (h.k == 3) with
            | true =>
              have H31 := Lib.hid (show h.k = 3 ∨ h.k = 1 from .inl (beq_iff_eq.1 h3))
              have hs2 := IMG.out H31.out
              clear IMG hsp
              go_wp2_with fail
              refine himg.out.mono ?_
              unfold ImagePost
              generalize hq : c.image h k = q at *
              obtain ⟨iu, iok⟩ := q
              rintro e w4 ⟨cs4, rfl, X5, R5⟩
              dsimp only at R5 hs2
              have HR5 := Lib.hid R5
              obtain ⟨xa, xc, rfl, -, -, -, -⟩ := R5.open_
              have E5 := Lib.hid ((E4.out.then X5).alloc (tbox iu xa xc))
              have X6 := Lib.hid ((X4.out.then X5).alloc (tbox iu xa xc))
              have BV5 := Lib.hid (Below.blk (below_alloc w4 (tbox iu xa xc)) (Below.blk X5.below BV3.out))
              have D5 := Lib.hid (Below.blk (below_alloc w4 (tbox iu xa xc)) (Below.blk X5.below D3.out))
              have B95 := Lib.hid (Below.blk (below_alloc w4 (tbox iu xa xc)) (Below.blk X5.below B9.out))
              have ST5 := Lib.hid ((ST3.out.pure X5).below (E4.out.then X5).agree (below_alloc w4 (tbox iu xa xc)))
              have HQ := Lib.hid hq
              clear hq X5 R5 himg
              cases iok with
              | false =>
                have hs3 := Lib.hid hs2.out
                rw [if_pos rfl] at hs3
                have hfail := Lib.hid (invert_fail vb s c la lc H1 _ f1 0 170 E5.out.agree BV5.out kv2)
                clear hs2
                go_wp2_with fail
                refine hfail.out.mono ?_
                rintro e w5 ⟨rfl, X7, C7⟩
                have B7 := (X7.block (w.heap.size + 1) (cell_lt D5.out) hne1).trans D5.out
                obtain ⟨q0, q1, q2, q3, q4, q5, q6, q7, q8⟩ := box4 B7
                go_wp2_with fail
                refine bodyPost_ret (v := .agg #[.int .i64 0, .string ⟨#[]⟩, .int .i64 0, .slice none 0 0]) (by simp [results, Try.results43, go_sem, q0, q1, q2, q3, q4]) rfl ?_
                exact term_err (Nat.le_succ _) hz E5.out k6 kv2 ST5.out (fun h => by have := h.2; omega) (fun h => hvF h.1) (fun k hk => .inl hk.1) X7 C7 hs3.out
              | true =>
                obtain ⟨q0, q1, q2, q3, q4, q5, q6, q7, q8⟩ := box4 B95.out
                clear hs2
                go_wp2_with fail
                go_meet
                exact ⟨iu, xa, xc, H5'.out, H4'.out, fun _ => HQ.out, fun h => absurd H31.out h, X6.out.store4 k9 (Nat.le_refl _) _ _ _ _, HR5.out, blk_set4 _ _ _ _ B95.out⟩
            | false =>
              cases h1 : (h.k == 1) with
              | true =>
                have H31 := Lib.hid (show h.k = 3 ∨ h.k = 1 from .inr (beq_iff_eq.1 h1))
                have hs2 := IMG.out H31.out
                clear IMG hsp
                go_wp2_with fail
                refine himg.out.mono ?_
                unfold ImagePost
                generalize hq : c.image h k = q at *
                obtain ⟨iu, iok⟩ := q
                rintro e w4 ⟨cs4, rfl, X5, R5⟩
                dsimp only at R5 hs2
                have HR5 := Lib.hid R5
                obtain ⟨xa, xc, rfl, -, -, -, -⟩ := R5.open_
                have E5 := Lib.hid ((E4.out.then X5).alloc (tbox iu xa xc))
                have X6 := Lib.hid ((X4.out.then X5).alloc (tbox iu xa xc))
                have BV5 := Lib.hid (Below.blk (below_alloc w4 (tbox iu xa xc)) (Below.blk X5.below BV3.out))
                have D5 := Lib.hid (Below.blk (below_alloc w4 (tbox iu xa xc)) (Below.blk X5.below D3.out))
                have B95 := Lib.hid (Below.blk (below_alloc w4 (tbox iu xa xc)) (Below.blk X5.below B9.out))
                have ST5 := Lib.hid ((ST3.out.pure X5).below (E4.out.then X5).agree (below_alloc w4 (tbox iu xa xc)))
                have HQ := Lib.hid hq
                clear hq X5 R5 himg
                cases iok with
                | false =>
                  have hs3 := Lib.hid hs2.out
                  rw [if_pos rfl] at hs3
                  have hfail := Lib.hid (invert_fail vb s c la lc H1 _ f1 0 170 E5.out.agree BV5.out kv2)
                  clear hs2
                  go_wp2_with fail
                  refine hfail.out.mono ?_
                  rintro e w5 ⟨rfl, X7, C7⟩
                  have B7 := (X7.block (w.heap.size + 1) (cell_lt D5.out) hne1).trans D5.out
                  obtain ⟨q0, q1, q2, q3, q4, q5, q6, q7, q8⟩ := box4 B7
                  go_wp2_with fail
                  refine bodyPost_ret (v := .agg #[.int .i64 0, .string ⟨#[]⟩, .int .i64 0, .slice none 0 0]) (by simp [results, Try.results43, go_sem, q0, q1, q2, q3, q4]) rfl ?_
                  exact term_err (Nat.le_succ _) hz E5.out k6 kv2 ST5.out (fun h => by have := h.2; omega) (fun h => hvF h.1) (fun k hk => .inl hk.1) X7 C7 hs3.out
                | true =>
                  obtain ⟨q0, q1, q2, q3, q4, q5, q6, q7, q8⟩ := box4 B95.out
                  clear hs2
                  go_wp2_with fail
                  go_meet
                  exact ⟨iu, xa, xc, H5'.out, H4'.out, fun _ => HQ.out, fun h => absurd H31.out h, X6.out.store4 k9 (Nat.le_refl _) _ _ _ _, HR5.out, blk_set4 _ _ _ _ B95.out⟩
              | false =>
                have hk3 : ¬ h.k = 3 := beq_eq_false_iff_ne.1 h3
                have hk1' : ¬ h.k = 1 := beq_eq_false_iff_ne.1 h1
                have HH := Lib.hid (show ¬ (h.k = 3 ∨ h.k = 1) from fun h => h.elim hk3 hk1')
                clear hk3 hk1'
                go_wp2_with fail
                go_meet
                exact ⟨h, ha, hc, H5'.out, H4'.out, fun h => absurd h HH.out, fun _ => rfl, X4.out, HR2.out, B9.out⟩
      case rest =>
        obtain ⟨hh, ha', hc', h5n, h4n, himg, hoth, X5, R5, B95⟩ := hcut
        have hspf : Hid (c.termF (m + 1) ⟨S, f, 0⟩ t k = (Tm.apply hh (Ic.mapV (fun v t => c.termF m v t k) ⟨S, f1, 0⟩ l).1, (Ic.mapV (fun v t => c.termF m v t k) ⟨S, f1, 0⟩ l).2)) := Lib.hid (by
          rw [hsp.out, if_neg h5n, if_neg h4n]
          by_cases h31 : h.k = 3 ∨ h.k = 1
          · simp only [if_pos h31, himg h31]; rfl
          · simp only [if_neg h31, hoth h31]; rfl)
        have hsh : Hid ((hh.k = 6 → hh.l ≠ []) ∧ hh.l.length ≤ 1073741824) := Lib.hid (by
          have h0 : (h.k = 6 → h.l ≠ []) ∧ h.l.length ≤ 1073741824 := ⟨HS4.out, by
            have := HS1.out.s
            have := HG.out.2.2
            have : h.l.length < h.size := by cases h with | mk k s n l => exact Tm.length_lt k s n l
            have hss : SB = 1073741824 := rfl
            omega⟩
          by_cases h31 : h.k = 3 ∨ h.k = 1
          · have := image_fst c h k
            rw [himg h31] at this
            dsimp only at this
            rcases this with e | ⟨n, e⟩
            · rw [e]; exact h0
            · rw [e]; exact ⟨fun h => (by cases h), (by unfold leafT; simp)⟩
          · rw [hoth h31]; exact h0)
        clear himg hoth h5n h4n hsp
        have E5 := Lib.hid (E3.out.then X5)
        have BV5 := Lib.hid (Below.blk X5.below BV2w.out)
        have D5 := Lib.hid (Below.blk X5.below D2.out)
        have HB95 := Lib.hid B95
        have ST5 := Lib.hid (ST2w.out.pure X5)
        have OW5 := Lib.hid (OW2.out.pure X5 (fun _ _ h => h))
        have HGR := Lib.hid OW2.out.lt
        have HR5 := Lib.hid R5
        have hz9' : w2.heap.size < wc.heap.size := cell_lt B95
        have HZ9 := Lib.hid (show w2.heap.size < wc.heap.size ∧ w.heap.size + 1 < w2.heap.size ∧ w.heap.size + 1 < bs from ⟨hz9', hz9, HBS.out⟩)
        have hlN : (l.length : Int) ≤ 1073741824 := by have := HS3.out; have := HG.out.2.2; have hss : SB = 1073741824 := rfl; omega
        clear X5 R5 B95 E4 X4 BV3 D3 B9 ST3 OW3 E3 BV2w D2 ST2w OW2 hz9 hz9' HBS
        go_wp2_with fail
        go_loopw [128] (fun i wr => TermRel vb s c la lc F M m k H w H1 bs w2.heap.size wc.heap.size hh ha' hc' (.slice lva l.length lvc) l ⟨S, f1, 0⟩ (Ic.mapV (fun v t => c.termF m v t k) ⟨S, f1, 0⟩ l) i wr) (fun i _ => l.length - (intOf i).toNat)
        case atStart =>
          exact ⟨0, H1, [], ⟨S, f1, 0⟩, Nat.zero_le _, rfl, rfl, by simp, Kept.refl HAS.out.ok, E5.out, Nat.le_refl _, by simpa using OW5.out, HB95.out, D5.out, BV5.out, ST5.out.mono (fun k hk => .inl hk), kv2, k6, Sub.refl _⟩
        case round =>
          obtain ⟨j, Hc, acc, ⟨S', f', e'⟩, hj, rfl, hacc, hR, hK, hE, hsz, own, hB9, hD, hBV, hST, n1, n2, hsub⟩ := hrel
          by_cases hlt : j < l.length
          · obtain ⟨x, hx⟩ : ∃ x, l[j]? = some x := ⟨_, List.getElem?_eq_getElem hlt⟩
            have hxm := List.mem_of_getElem? hx
            have hdr : l.drop j = x :: l.drop (j + 1) := by
              rw [List.drop_eq_getElem_cons hlt]
              rw [List.getElem?_eq_getElem hlt] at hx
              injection hx with hx
              rw [hx]
            have hgx : (acc ++ l.drop j)[j]? = some x := by rw [hdr, ← hacc, List.getElem?_append_right (Nat.le_refl _)]; simp
            obtain ⟨g, gc, xcs, hv, hgb, hRx, hcell, hfz, hgl, hgm, hgw⟩ := own.get (fun _ _ h => h.len) hgx
            injection hv with hv1 hv2 hv3
            subst hv1; subst hv3
            clear hv2
            have hgr := HGR.out g rfl
            have hzz := HZ9.out
            rw [hdr, Ic.mapV] at hR
            have hask := (HAS.out.part (HS2.out x hxm)).kept hK
            have hkf := hK.f
            have hkf0 := hK.f0 HG.out.2.1
            dsimp only at hkf hkf0
            have hle : f'.toNat ≤ m := by have := HG.out; have := HM.out; omega
            have hkp := Lib.hid (hK.trans (Ic.termF_kept (c := c) HLL.out m ⟨S', f', e'⟩ x k B1 hle hask))
            have HRX := Lib.hid hRx
            obtain ⟨xa, xc, rfl, -, -, -, -⟩ := hRx.open_
            have hcall := Lib.hid (HIH.out (fun k => (F k ∧ k < w.heap.size) ∨ wc.heap.size ≤ k) Hc (wr.alloc (tbox x xa xc)) S' x _ k f' e' B1 hle (hE.agree.alloc _) (Below.blk (below_alloc wr (tbox x xa xc)) hBV) n1 (fun h => h.elim (fun h => hvF h.1) (fun h => by omega)) (hST.below hE.agree (below_alloc wr (tbox x xa xc))) (HL3.out.mono hsub) HRX.out hask hk0 (by have := HG.out; omega) (by have := HG.out; unfold I64 at hf ⊢; omega))
            have d0 := hcell 0 _ rfl
            have d1 := hcell 1 _ rfl
            have d2 := hcell 2 _ rfl
            have d3 := hcell 3 _ rfl
            simp only [Nat.add_zero] at d0
            have HHR := Lib.hid hR
            have HDR := Lib.hid hdr
            have HOW := Lib.hid (own.alloc (tbox x xa xc))
            have HE := Lib.hid (hE.alloc (tbox x xa xc))
            have HB9 := Lib.hid (Below.blk (below_alloc wr (tbox x xa xc)) hB9)
            have HD := Lib.hid (Below.blk (below_alloc wr (tbox x xa xc)) hD)
            have hwrs : wr.heap.size ≤ (wr.alloc (tbox x xa xc)).heap.size := (below_alloc wr (tbox x xa xc)).size
            have HSZ := Lib.hid (show wc.heap.size ≤ (wr.alloc (tbox x xa xc)).heap.size by omega)
            have HSUB := Lib.hid hsub
            have HGW := Lib.hid (show w.heap.size + 1 < g ∧ g < w2.heap.size ∧ w2.heap.size < wc.heap.size ∧ vb < w.heap.size by omega)
            clear hR hdr own hE hB9 hD hBV hST hx hgx hxm hask hK hsub hgr hzz hcell hRx hfz hwrs hsz
            go_wp2_with fail
            refine hcall.out.mono ?_
            unfold FlexPost
            generalize hq : c.termF m ⟨S', f', e'⟩ x k = q at *
            obtain ⟨r1, v2⟩ := q
            dsimp only at HHR hkp
            rintro e w4 ⟨H4, rcs, rfl, X4', R4, BV4, ST4⟩
            dsimp only at R4 BV4 ST4
            have hgw4 := HGW.out
            have hsw := HSZ.out
            have own4 := HOW.out.ext X4' (fun q hq e => by
              have hqg : q = g := by simp [Value.ownBlock] at hq; exact hq.symm
              subst hqg
              rcases e with e | e | e
              · omega
              · have := e.2; omega
              · omega) (fun _ _ h => h.mono X4'.sub)
            have hgx4 : (acc ++ l.drop j)[j]? = some x := by rw [HDR.out, ← hacc, List.getElem?_append_right (Nat.le_refl _)]; simp
            obtain ⟨g', gc', ycs, hv', -, hRy, hcell4, hfz4, -, -, hgw5⟩ := own4.get (fun _ _ h => h.len) hgx4
            injection hv' with hv1' hv2' hv3'
            injection hv1' with hv1'
            injection hv1' with hv1'
            subst hv1'
            clear hv2' hv3'
            have HR4 := Lib.hid R4
            obtain ⟨ra, rc, rfl, -, -, -, -⟩ := R4.open_
            obtain ⟨ya, yc, rfl, -, -, -, -⟩ := hRy.open_
            have D4 := Lib.hid ((X4'.block (w.heap.size + 1) (cell_lt HD.out) (fun h => by rcases h with h | h | h; exact hne1 h; have := h.2; omega; omega)).trans HD.out)
            have B4 := Lib.hid ((X4'.block w2.heap.size (cell_lt HB9.out) (fun h => by rcases h with h | h | h; omega; have := h.2; omega; omega)).trans HB9.out)
            have m1 : H4 vb = none := (X4'.old _ (by omega)).trans n1
            have m2 : H4 (w.heap.size + 1) = none := (X4'.old _ (cell_lt HD.out)).trans n2
            have mg : H4 g = none := own4.free g rfl
            have ST5' := Lib.hid (ST4.mono (F' := fun k => (F k ∧ k < w.heap.size) ∨ wc.heap.size ≤ k) (fun q hq => hq.elim id (fun h => .inr (by omega))))
            have E4 := Lib.hid (HE.out.trans X4' (fun q hq hlt => hq.elim .inl (fun h => h.elim (fun h => .inr h.1) (fun h => absurd h (by omega)))))
            have OW4 := Lib.hid own4
            have HSUB4 := Lib.hid (HSUB.out.trans X4'.sub)
            have HS4' := Lib.hid (show wc.heap.size ≤ w4.heap.size from Nat.le_trans HSZ.out X4'.size)
            have HBV4 := Lib.hid BV4
            clear X4' R4 own4 hgx4 BV4 ST4 d0 d1 d2 d3 hcall
            have y0 := hcell4 0 _ rfl
            have y1 := hcell4 1 _ rfl
            have y2 := hcell4 2 _ rfl
            have y3 := hcell4 3 _ rfl
            simp only [Nat.add_zero] at y0
            have x0 := hfz4 (j * 4)
            have x1 := hfz4 (j * 4 + 1)
            have x2 := hfz4 (j * 4 + 2)
            have x3 := hfz4 (j * 4 + 3)
            have O5 : Own H4 ((((w4.setCell ⟨g, j * 4, none⟩ (.int .i64 r1.k)).setCell ⟨g, j * 4 + 1, none⟩ (.string r1.s)).setCell ⟨g, j * 4 + 2, none⟩ (.int .i64 r1.n)).setCell ⟨g, j * 4 + 3, none⟩ (.slice ra r1.l.length rc)) bs 30 4 (Rep H4) (.slice (some ⟨g, 0, none⟩) l.length lvc) ((acc ++ [r1]) ++ l.drop (j + 1)) := by
              have := OW4.out.set rfl (i := j) (by rw [List.length_append, hacc]; rw [HDR.out]; simp) (y := r1) (vs := [.int .i64 r1.k, .string r1.s, .int .i64 r1.n, .slice ra r1.l.length rc]) rfl HR4.out
              rw [setRow4] at this
              rw [← set_mid acc x r1 (l.drop (j + 1)) j hacc, ← HDR.out]
              exact this
            have hwg : w.heap.size ≤ g := by omega
            have T5 : Ext (fun k => k = vb ∨ F k) H w H4 ((((w4.setCell ⟨g, j * 4, none⟩ (.int .i64 r1.k)).setCell ⟨g, j * 4 + 1, none⟩ (.string r1.s)).setCell ⟨g, j * 4 + 2, none⟩ (.int .i64 r1.n)).setCell ⟨g, j * 4 + 3, none⟩ (.slice ra r1.l.length rc)) := (((E4.out.setCell (p := ⟨g, j * 4, none⟩) mg (fun h => absurd h (Nat.not_lt.2 hwg)) _).setCell (p := ⟨g, j * 4 + 1, none⟩) mg (fun h => absurd h (Nat.not_lt.2 hwg)) _).setCell (p := ⟨g, j * 4 + 2, none⟩) mg (fun h => absurd h (Nat.not_lt.2 hwg)) _).setCell (p := ⟨g, j * 4 + 3, none⟩) mg (fun h => absurd h (Nat.not_lt.2 hwg)) _
            have far5 : ∀ k, k ≠ g → ((((w4.setCell ⟨g, j * 4, none⟩ (.int .i64 r1.k)).setCell ⟨g, j * 4 + 1, none⟩ (.string r1.s)).setCell ⟨g, j * 4 + 2, none⟩ (.int .i64 r1.n)).setCell ⟨g, j * 4 + 3, none⟩ (.slice ra r1.l.length rc)).heap[k]? = w4.heap[k]? := fun k hk => by
              have := setRow_far (g := g) hk [.int .i64 r1.k, .string r1.s, .int .i64 r1.n, .slice ra r1.l.length rc] w4 (j * 4)
              rw [setRow4] at this
              exact this
            have ST6 : StAt H4 ((((w4.setCell ⟨g, j * 4, none⟩ (.int .i64 r1.k)).setCell ⟨g, j * 4 + 1, none⟩ (.string r1.s)).setCell ⟨g, j * 4 + 2, none⟩ (.int .i64 r1.n)).setCell ⟨g, j * 4 + 3, none⟩ (.slice ra r1.l.length rc)) (fun k => (F k ∧ k < w.heap.size) ∨ wc.heap.size ≤ k) s v2.S := by
              have := ST5'.out.heapF E4.out.agree mg (fun h => h.elim (fun h => by have := h.2; omega) (fun h => by omega)) (.int .i64 r1.k) (.string r1.s) (.int .i64 r1.n) (.slice ra r1.l.length rc) (j * 4)
              rw [setRow4] at this
              exact this
            have HO5 := Lib.hid O5
            have HT5 := Lib.hid T5
            have HST6 := Lib.hid ST6
            have G0 := Lib.hid ((far5 (w.heap.size + 1) (by omega)).trans D4.out)
            have G1 := Lib.hid ((far5 w2.heap.size (by omega)).trans B4.out)
            have G2 := Lib.hid ((far5 vb (by omega)).trans HBV4.out)
            clear O5 T5 far5 ST6
            go_wp2_with fail
            go_roundw
            case rel =>
              refine ⟨j + 1, H4, acc ++ [r1], v2, by omega, by go_num, by rw [List.length_append, hacc]; rfl, ?_, hkp.out, HT5.out, ?_, HO5.out, G1.out, G0.out, G2.out, HST6.out, m1, m2, HSUB4.out⟩
              · rw [HHR.out, List.append_assoc]; rfl
              · have := HS4'.out; simpa [World.setCell] using this
            case measure => simp [intOf]; omega
          · have hjl : j = l.length := by omega
            subst hjl
            rw [List.drop_length] at hR own
            rw [Ic.mapV] at hR
            rw [List.append_nil] at own
            dsimp only at hR
            rw [List.append_nil] at hR
            have hzz := HZ9.out
            have hgo := HG.out
            have hl3 := HS3.out
            have hss : SB = 1073741824 := rfl
            obtain ⟨H6, hs6, a6, l6, o6, hT6⟩ := own.freeze hE.agree (fun _ _ h => h.len)
            have hT6 : Tms H6 _ acc := Sl.mono (Sub.refl _) (fun _ _ _ h => Rep.mono hs6 h) hT6
            have m2 : H6 (w.heap.size + 1) = none := (l6 _ (by omega)).trans n2
            have E6 := Lib.hid (show Ext (fun k => k = vb ∨ F k) H w H6 wr from ⟨hE.sub.trans hs6, a6, hE.os, hE.tape, hE.output, hE.size, hE.block, fun q hq => (l6 q (by omega)).trans (hE.old q hq)⟩)
            have ST6 := Lib.hid (hST.sub hs6 (fun q hq => o6 q (fun e => by
              have := HGR.out q e
              rcases hq with h | h
              · have := h.2; omega
              · omega)))
            have hal := apply_len hh acc
            have hhl := hsh.out.2
            have hap := Lib.hid (term_Apply hh _ acc _ H6 wr (HR5.out.mono (hsub.trans hs6)) hT6 a6 hsh.out.1 (by unfold LB; omega))
            have HB9 := Lib.hid hB9
            have HD := Lib.hid hD
            have HBV := Lib.hid hBV
            have hspg := Lib.hid (hspf.out.trans (by rw [hR]))
            obtain ⟨p0, p1, p2, p3, p4, p5, p6, p7, p8⟩ := box4 hB9
            have HSZ := Lib.hid (show wc.heap.size ≤ wr.heap.size from hsz)
            have HZZ := Lib.hid hzz
            clear hR own hE hB9 hD hBV hST hK hsub hzz hT6 a6 l6 o6 hs6 hal hhl hspf hgo hl3 hss hsz
            rw [← hacc] at hlt
            go_wp2_with fail
            refine hap.out.mono ?_
            rintro e w4 ⟨H7, cs7, rfl, X7, R7⟩
            have HR7 := Lib.hid R7
            have D7 := Lib.hid (Below.blk X7.below HD.out)
            have BV7 := Lib.hid (Below.blk X7.below HBV.out)
            have k7 : H7 (w.heap.size + 1) = none := (X7.old _ (cell_lt HD.out)).trans m2
            have E7 := Lib.hid (E6.out.then X7)
            have ST7 := Lib.hid (ST6.out.pure X7)
            generalize hY : hh.apply acc = Y at *
            obtain ⟨ya, yc, rfl, -, -, -, -⟩ := R7.open_
            obtain ⟨q0, q1, q2, q3, q4, q5, q6, q7, q8⟩ := box4 D7.out
            clear hap X7 R7 p0 p1 p2 p3 p4 p5 p6 p7 p8
            go_wp2_with fail
            refine bodyPost_ret (v := .agg #[.int .i64 Y.k, .string Y.s, .int .i64 Y.n, .slice ya Y.l.length yc]) (by simp [results, Try.results43, go_sem, q0, q1, q2, q3, q4]) rfl ?_
            exact term_fin (Nat.le_succ _) hz E7.out k7 BV7.out ST7.out (fun h => h.elim (fun h => by have := h.2; omega) (fun h => by have := HZZ.out; omega)) (fun q hq => hq.elim (fun h => .inl h.1) (fun h => .inr (by have := HZZ.out; omega))) HR7.out hspg.out
    · have her' : (er == 0) = false := beq_eq_false_iff_ne.2 her
      rw [if_pos her] at hsp
      have hfail := Lib.hid (invert_fail vb s c la lc H1 _ f 0 er E1.out.agree BV1.out kv1)
      go_wp2_with fail
      refine hfail.out.mono ?_
      rintro e w2 ⟨rfl, X2, C2⟩
      have B2 := (X2.block (w.heap.size + 1) (cell_lt HC1.out) hne1).trans HC1.out
      obtain ⟨q0, q1, q2, q3, q4, q5, q6, q7, q8⟩ := box4 B2
      go_wp2_with fail
      refine bodyPost_ret (v := .agg #[.int .i64 0, .string ⟨#[]⟩, .int .i64 0, .slice none 0 0]) (by simp [results, Try.results43, go_sem, q0, q1, q2, q3, q4]) rfl ?_
      exact term_err (Nat.le_succ _) hz (E1.out.mono (fun _ h => h.elim)) k1 kv1 ST1.out (fun h => by have := h.2; omega) (fun h => hvF h.1) (fun k hk => .inl hk.1) X2 C2 hsp.out
end Go.Proofs.Ytbdappbmlnpogaa
namespace Go.Proofs.Ytbdappbmlnpogaa
open Go Go.RowKit
set_option maxRecDepth 100000
theorem invert_term (vb s : Nat) (c : Ic) (la : Option Addr) (lc M : Nat) (hLl : ∀ u ∈ c.L, u.isLeaf = true) (hLn : c.L.length ≤ 1048576) (hcl : I64 c.lv) (hcx : I64 c.x) : ∀ m, TermAt vb s c la lc M m := by
  intro m
  induction m with
  | zero =>
    intro F H w S t cs k f e B hm hA hvb hH hvF hS hL hR ask hk0 hk1 hf
    exact invert_term_stop vb s c la lc 0 H w S t cs k f e hm hA hvb hH hvF hS hR (.inr (by omega))
  | succ m ih => exact invert_term_succ vb s c la lc M m hLl hLn hcl hcx ih
def InvertPost (F : Nat → Prop) (H : GH) (w : World) (s : Nat) (r : (Tm × Int × Int) × St) (e : Ending) (w' : World) : Prop :=
  ∃ H' cs', e = .returned (.tuple #[.agg cs'.toArray, .int .i64 r.1.2.1, .int .i64 r.1.2.2]) ∧ Ext F H w H' w' ∧ Rep H' r.1.1 cs' ∧ StAt H' w' (fun k => F k ∨ w.heap.size ≤ k) s r.2
theorem invert_arg {F : Nat → Prop} {H H' : GH} {w w' : World} {s : Nat} {S : St} {r : (Tm × Int × Int) × St} {G : Nat → Prop} (h : Ext F H w H' w') (hS : StAt H' w' G s S) (hG : ∀ k, G k → F k ∨ w.heap.size ≤ k) {er : Int} (hr : r = ((Tm.zero, 0, er), S)) : InvertPost F H w s r (.returned (.tuple #[.agg #[.int .i64 0, .string ⟨#[]⟩, .int .i64 0, .slice none 0 0], .int .i64 0, .int .i64 er])) w' := by
  subst hr
  exact ⟨H', _, rfl, h, rep_zero H', hS.mono hG⟩
theorem inv_far {W : World} {ub vb b : Nat} {x0 x1 x2 x3 y4 : Value} (h : W.cell? ⟨ub, 0, none⟩ = some x0 ∧ W.cell? ⟨ub, 1, none⟩ = some x1 ∧ W.cell? ⟨ub, 2, none⟩ = some x2 ∧ W.cell? ⟨ub, 3, none⟩ = some x3 ∧ W.cell? ⟨vb, 4, none⟩ = some y4) (h1 : ub ≠ b) (h2 : vb ≠ b) (u0 u1 u2 u3 : Value) :
    ((((W.setCell ⟨b, 0, none⟩ u0).setCell ⟨b, 1, none⟩ u1).setCell ⟨b, 2, none⟩ u2).setCell ⟨b, 3, none⟩ u3).cell? ⟨ub, 0, none⟩ = some x0 ∧ ((((W.setCell ⟨b, 0, none⟩ u0).setCell ⟨b, 1, none⟩ u1).setCell ⟨b, 2, none⟩ u2).setCell ⟨b, 3, none⟩ u3).cell? ⟨ub, 1, none⟩ = some x1 ∧ ((((W.setCell ⟨b, 0, none⟩ u0).setCell ⟨b, 1, none⟩ u1).setCell ⟨b, 2, none⟩ u2).setCell ⟨b, 3, none⟩ u3).cell? ⟨ub, 2, none⟩ = some x2 ∧ ((((W.setCell ⟨b, 0, none⟩ u0).setCell ⟨b, 1, none⟩ u1).setCell ⟨b, 2, none⟩ u2).setCell ⟨b, 3, none⟩ u3).cell? ⟨ub, 3, none⟩ = some x3 ∧ ((((W.setCell ⟨b, 0, none⟩ u0).setCell ⟨b, 1, none⟩ u1).setCell ⟨b, 2, none⟩ u2).setCell ⟨b, 3, none⟩ u3).cell? ⟨vb, 4, none⟩ = some y4 := by
  have e : ∀ k o, k ≠ b → ((((W.setCell ⟨b, 0, none⟩ u0).setCell ⟨b, 1, none⟩ u1).setCell ⟨b, 2, none⟩ u2).setCell ⟨b, 3, none⟩ u3).cell? ⟨k, o, none⟩ = W.cell? ⟨k, o, none⟩ := fun k o hk => by
    unfold World.cell?
    rw [blk_far4 _ _ _ _ hk]
  rw [e _ _ h1, e _ _ h1, e _ _ h1, e _ _ h1, e _ _ h2]
  exact h
set_option maxHeartbeats 16000000 in
theorem invert_Invert {F : Nat → Prop} (H : GH) (w : World) (s : Nat) (S : St) (M : Nat) (B : Int) (x : Int) (l : List Tm) (v : Value) (t : Tm) (cs : List Value) (f : Int) (hA : Agree H w) (hS : StAt H w F s S) (hx : I64 x) (hK : Tms H v l) (hk : l.length ≤ 1048576) (hR : Rep H t cs) (hf : I64 f)
    (hask : t.valid = true → Ask ⟨x, (S.info x).1.lv, l⟩ M ⟨S, f, 0⟩ t B) :
    Calls Try.prog 19 #[.pointer (some ⟨s, 0, none⟩), .int .i64 x, v, .agg cs.toArray, .int .i64 f] w (InvertPost F H w s (S.invert x l t f)) := by
  have HS := Lib.hid hS.tight
  obtain ⟨ka, kc, rfl, -, -⟩ := hK.form
  have hleaf := Lib.hid (fun W hW => containsFunc 41 #[] (by intro args w; go_simp) (fun t => !t.isLeaf) H W (.slice ka l.length kc) l hK hW (fun t _ cs' w' hw' hR' => invert_Invert1 t cs' H w' hR' (hW.below hw')))
  have hodd := Lib.hid (fun W hW => invert_odd t cs H W hR hW)
  have hsp : Hid (S.invert x l t f = _) := Lib.hid (by unfold St.invert; rfl)
  have HR := Lib.hid hR
  obtain ⟨a, cap, rfl, -, -, -, -⟩ := hR.open_
  obtain ⟨E0, B0, B1, hn1⟩ := enter1 t a cap H w hA
  have hinf := Lib.hid (store_Info H _ s S x (HS.out.pure E0))
  have E0 := Lib.hid E0
  have B0 := Lib.hid B0
  have B1 := Lib.hid B1
  have HA := Lib.hid hask
  have HK := Lib.hid hK
  generalize hI : S.info x = I at *
  obtain ⟨i, ok⟩ := I
  dsimp only at hsp HA
  clear hS hK hR hask hI
  go_enter Try.func19, Try.ntmps19
  go_wp2_with fail
  generalize hW0 : (w.alloc (tbox t a cap)).alloc zbox = W0 at *
  clear hW0
  refine hinf.out.mono ?_
  rintro e w1 ⟨ics, rfl, hb1, hRI⟩
  obtain ⟨tcs, rfl, hR1, hlv⟩ := hRI
  obtain ⟨ia, ic, rfl, -, -, -, -⟩ := hR1.open_
  have E1 := Lib.hid (E0.out.then_below hb1)
  have C0 := Lib.hid (Below.blk (below_alloc w1 (.cells #[.int .i64 i.lv, .bool i.bd, .int .i64 i.vl.k, .string i.vl.s, .int .i64 i.vl.n, .slice ia i.vl.l.length ic] 37 (0, 0))) (Below.blk hb1 B0.out))
  have C1 := Lib.hid (Below.blk (below_alloc w1 (.cells #[.int .i64 i.lv, .bool i.bd, .int .i64 i.vl.k, .string i.vl.s, .int .i64 i.vl.n, .slice ia i.vl.l.length ic] 37 (0, 0))) (Below.blk hb1 B1.out))
  have CI := Lib.hid (heap_alloc_new w1 (.cells #[.int .i64 i.lv, .bool i.bd, .int .i64 i.vl.k, .string i.vl.s, .int .i64 i.vl.n, .slice ia i.vl.l.length ic] 37 (0, 0)))
  have E2 := Lib.hid (E1.out.alloc (.cells #[.int .i64 i.lv, .bool i.bd, .int .i64 i.vl.k, .string i.vl.s, .int .i64 i.vl.n, .slice ia i.vl.l.length ic] 37 (0, 0)))
  clear hinf hR1 hb1
  have stop : Hid (∀ w' (X : Pure H w H w') (hB : w'.heap[w.heap.size + 1]? = some zbox) (hc : ok = false ∨ i.bd = true ∨ t.valid = false ∨ l.any (fun u => !u.isLeaf) = true), InvertPost F H w s (S.invert x l t f) (.returned (.tuple #[.agg #[.int .i64 0, .string ⟨#[]⟩, .int .i64 0, .slice none 0 0], .int .i64 0, .int .i64 1])) ((((w'.setCell ⟨w.heap.size + 1, 0, none⟩ (.int .i64 0)).setCell ⟨w.heap.size + 1, 1, none⟩ (.string ⟨#[]⟩)).setCell ⟨w.heap.size + 1, 2, none⟩ (.int .i64 0)).setCell ⟨w.heap.size + 1, 3, none⟩ (.slice none 0 0))) := Lib.hid (fun w' X hB hc => by
    have X2 := X.store4 hn1 (Nat.le_succ _) (.int .i64 0) (.string ⟨#[]⟩) (.int .i64 0) (.slice none 0 0)
    exact invert_arg (X2.mono (fun _ h => h.elim)) (HS.out.pure X2) (fun k hk => .inl hk.1) (by rw [hsp.out, if_pos hc]))
  cases ok with
  | false =>
    obtain ⟨q0, q1, q2, q3, q4, q5, q6, q7, q8⟩ := box4 C1.out
    go_wp2_with fail
    refine bodyPost_ret (v := .tuple #[.agg #[.int .i64 0, .string ⟨#[]⟩, .int .i64 0, .slice none 0 0], .int .i64 0, .int .i64 1]) (by simp [results, Try.results19, go_sem, q0, q1, q2, q3, q4]) rfl ?_
    exact stop.out _ E2.out C1.out (by simp)
  | true =>
    cases hbd : i.bd with
    | true =>
      have hbd' := Lib.hid hbd
      rw [hbd] at C1 CI E2
      obtain ⟨q0, q1, q2, q3, q4, q5, q6, q7, q8⟩ := box4 C1.out
      go_wp2_with fail
      refine bodyPost_ret (v := .tuple #[.agg #[.int .i64 0, .string ⟨#[]⟩, .int .i64 0, .slice none 0 0], .int .i64 0, .int .i64 1]) (by simp [results, Try.results19, go_sem, q0, q1, q2, q3, q4]) rfl ?_
      exact stop.out _ E2.out C1.out (by simp [hbd'.out])
    | false =>
      have hbd' := Lib.hid hbd
      rw [hbd] at C0 C1 CI E2
      clear hbd
      obtain ⟨p0, p1, p2, p3, p4, p5, p6, p7, p8⟩ := box4 C0.out
      obtain ⟨v0, v1, v2, v3, v4, v5, v6⟩ := box6 CI.out
      go_wp2_with fail
      refine (hodd.out _ E2.out.agree).mono ?_
      rintro e w2 ⟨rfl, hb2⟩
      have E3 := Lib.hid (E2.out.then_below hb2)
      have D0 := Lib.hid (Below.blk hb2 C0.out)
      have D1 := Lib.hid (Below.blk hb2 C1.out)
      have DI := Lib.hid (Below.blk hb2 CI.out)
      clear hodd hb2 C0 C1 CI E2 p0 p1 p2 p3 p4 p5 p6 p7 p8 v0 v1 v2 v3 v4 v5 v6
      cases hv : t.valid with
      | false =>
        have HV := Lib.hid hv
        clear hv
        obtain ⟨q0, q1, q2, q3, q4, q5, q6, q7, q8⟩ := box4 D1.out
        go_wp2_with fail
        refine bodyPost_ret (v := .tuple #[.agg #[.int .i64 0, .string ⟨#[]⟩, .int .i64 0, .slice none 0 0], .int .i64 0, .int .i64 1]) (by simp [results, Try.results19, go_sem, q0, q1, q2, q3, q4]) rfl ?_
        exact stop.out _ E3.out D1.out (by simp [HV.out])
      | true =>
        have HV := Lib.hid hv
        clear hv
        go_wp2_with fail
        refine (hleaf.out _ E3.out.agree).mono ?_
        rintro e w3 ⟨rfl, hb3⟩
        have E4 := Lib.hid (E3.out.then_below hb3)
        have G0 := Lib.hid (Below.blk hb3 D0.out)
        have G1 := Lib.hid (Below.blk hb3 D1.out)
        have GI := Lib.hid (Below.blk hb3 DI.out)
        clear hleaf hb3 D0 D1 DI E3
        cases hlf : l.any (fun u => !u.isLeaf) with
        | true =>
          have HLF := Lib.hid hlf
          clear hlf
          obtain ⟨q0, q1, q2, q3, q4, q5, q6, q7, q8⟩ := box4 G1.out
          go_wp2_with fail
          refine bodyPost_ret (v := .tuple #[.agg #[.int .i64 0, .string ⟨#[]⟩, .int .i64 0, .slice none 0 0], .int .i64 0, .int .i64 1]) (by simp [results, Try.results19, go_sem, q0, q1, q2, q3, q4]) rfl ?_
          exact stop.out _ E4.out G1.out (by simp [HLF.out])
        | false =>
          have hsp2 : Hid (S.invert x l t f = if (Ic.termF ⟨x, i.lv, l⟩ f.toNat ⟨S, f, 0⟩ t 0).2.e ≠ 0 then ((Tm.zero, 0, (Ic.termF ⟨x, i.lv, l⟩ f.toNat ⟨S, f, 0⟩ t 0).2.e), (Ic.termF ⟨x, i.lv, l⟩ f.toNat ⟨S, f, 0⟩ t 0).2.S) else ((Tm.lams l.length (Ic.termF ⟨x, i.lv, l⟩ f.toNat ⟨S, f, 0⟩ t 0).1, (Ic.termF ⟨x, i.lv, l⟩ f.toNat ⟨S, f, 0⟩ t 0).2.f, 0), (Ic.termF ⟨x, i.lv, l⟩ f.toNat ⟨S, f, 0⟩ t 0).2.S)) := Lib.hid (by
            rw [hsp.out, if_neg (by rw [HV.out, hbd'.out, hlf]; simp)])
          have hll : ∀ u ∈ l, u.isLeaf = true := fun u hu => by
            have := List.any_eq_false.1 hlf u hu
            simpa using this
          clear hlf hsp stop
          have ask := HA.out HV.out
          have E5 := Lib.hid (E4.out.alloc (ivbox s ⟨x, i.lv, l⟩ ka kc f 0))
          have BV := Lib.hid (heap_alloc_new w3 (ivbox s ⟨x, i.lv, l⟩ ka kc f 0))
          have K0 := Lib.hid (Below.blk (below_alloc w3 (ivbox s ⟨x, i.lv, l⟩ ka kc f 0)) G0.out)
          have K1 := Lib.hid (Below.blk (below_alloc w3 (ivbox s ⟨x, i.lv, l⟩ ka kc f 0)) G1.out)
          have hz1 : w.heap.size + 1 < w3.heap.size := cell_lt G1.out
          have hvn : H w3.heap.size = none := hA.free (by omega)
          have hD : f ≤ 1048576 := ask.hD
          have hterm := Lib.hid (invert_term w3.heap.size s ⟨x, i.lv, l⟩ ka kc M hll hk hlv hx f.toNat (fun k => F k ∧ k < w.heap.size) H _ S t _ 0 f 0 B (Nat.le_refl _) E5.out.agree BV.out hvn (fun h => by have := h.2; omega) (HS.out.pure E5.out) HK.out HR.out ask (Int.le_refl _) (by omega) hf)
          have HZ1 := Lib.hid hz1
          obtain ⟨v0, v1, v2, v3, v4, v5, v6⟩ := box6 GI.out
          obtain ⟨p0, p1, p2, p3, p4, p5, p6, p7, p8⟩ := box4 K0.out
          clear hll ask hD hz1 p5 p6 p7 p8
          generalize hq : Ic.termF ⟨x, i.lv, l⟩ f.toNat ⟨S, f, 0⟩ t 0 = q at *
          obtain ⟨qt, qS, qf, qe⟩ := q
          dsimp only at hsp2
          clear hq
          go_wp2_with fail
          refine hterm.out.mono ?_
          unfold FlexPost
          rintro e w5 ⟨H5, cs5, rfl, X5, R5, BV5, ST5⟩
          dsimp only at R5 BV5 ST5
          have hz := HZ1.out
          have hz5 := X5.size
          have hws : (w3.alloc (ivbox s ⟨x, i.lv, l⟩ ka kc f 0)).heap.size = w3.heap.size + 1 := by simp
          have M1 := Lib.hid ((X5.block (w.heap.size + 1) (cell_lt K1.out) (fun h => h.elim (fun h => by omega) (fun h => by have := h.2; omega))).trans K1.out)
          have n1 : H5 (w.heap.size + 1) = none := (X5.old _ (cell_lt K1.out)).trans hn1
          have HR5 := Lib.hid R5
          have E6 := Lib.hid ((E5.out.mono (O' := F) (fun _ h => h.elim)).trans X5 (fun k hk hlt => hk.elim (fun h => absurd h (by omega)) (fun h => h.1)))
          have HBV5 := Lib.hid BV5
          have HST5 := Lib.hid ST5
          obtain ⟨xa, xc, rfl, -, -, -, -⟩ := R5.open_
          have E7 := Lib.hid (E6.out.alloc (tbox qt xa xc))
          have M2 := Lib.hid (Below.blk (below_alloc w5 (tbox qt xa xc)) M1.out)
          have M3 := Lib.hid (heap_alloc_new w5 (tbox qt xa xc))
          have BV6 := Lib.hid (Below.blk (below_alloc w5 (tbox qt xa xc)) HBV5.out)
          have ST6 := Lib.hid (HST5.out.below E6.out.agree (below_alloc w5 (tbox qt xa xc)))
          have HGG : Hid (∀ k, (F k ∧ k < w.heap.size) ∨ (w3.alloc (ivbox s ⟨x, i.lv, l⟩ ka kc f 0)).heap.size ≤ k → F k ∨ w.heap.size ≤ k) := Lib.hid (fun k hk => hk.elim (fun h => .inl h.1) (fun h => .inr (by omega)))
          have HNG : Hid (¬ ((F (w.heap.size + 1) ∧ w.heap.size + 1 < w.heap.size) ∨ (w3.alloc (ivbox s ⟨x, i.lv, l⟩ ka kc f 0)).heap.size ≤ w.heap.size + 1)) := Lib.hid (fun h => h.elim (fun h => by have := h.2; omega) (fun h => by omega))
          have HNV : Hid (w3.heap.size ≠ w.heap.size + 1 ∧ w5.heap.size ≠ w.heap.size + 1 ∧ w3.heap.size < w5.heap.size) := Lib.hid (by omega)
          clear X5 R5 BV5 ST5 hterm v0 v1 v2 v3 v4 v5 v6 p0 p1 p2 p3 p4 hws hz hz5
          obtain ⟨y0, y1, y2, y3, y4, y5, y6⟩ := box6 HBV5.out
          have hnv3 := HNV.out.2.2
          have hnv4 : w3.heap.size ≠ w5.heap.size := by omega
          by_cases he : qe = 0
          · subst he
            rw [if_neg (by simp)] at hsp2
            have K1' : (w5.alloc (tbox qt xa xc)).drew.cell? ⟨w5.heap.size, 0, none⟩ = some (.int .i64 qt.k) ∧ (w5.alloc (tbox qt xa xc)).drew.cell? ⟨w5.heap.size, 1, none⟩ = some (.string qt.s) ∧ (w5.alloc (tbox qt xa xc)).drew.cell? ⟨w5.heap.size, 2, none⟩ = some (.int .i64 qt.n) ∧ (w5.alloc (tbox qt xa xc)).drew.cell? ⟨w5.heap.size, 3, none⟩ = some (.slice xa qt.l.length xc) ∧ (w5.alloc (tbox qt xa xc)).drew.cell? ⟨w3.heap.size, 4, none⟩ = some (.int .i64 qf) :=
              ⟨(box4 (w := (w5.alloc (tbox qt xa xc)).drew) M3.out).2.1, (box4 (w := (w5.alloc (tbox qt xa xc)).drew) M3.out).2.2.1, (box4 (w := (w5.alloc (tbox qt xa xc)).drew) M3.out).2.2.2.1, (box4 (w := (w5.alloc (tbox qt xa xc)).drew) M3.out).2.2.2.2.1, (iv04 (W := (w5.alloc (tbox qt xa xc)).drew) BV6.out).2⟩
            have N1 := HNV.out.2.1
            have N2 := HNV.out.1
            obtain ⟨v0, v1, v2, v3, v4, v5, v6⟩ := box6 BV6.out
            have hlm := Lib.hid (term_Lams l.length qt _ H5 _ (by unfold LB; omega) E7.out.drew.agree HR5.out)
            go_wp2_with fail
            generalize hW7 : w5.alloc (tbox qt xa xc) = W7 at *
            clear hW7 v0 v1 v2 v3 v4 v5 v6
            go_region_held3 (fun w' => w'.cell? ⟨w5.heap.size, 0, none⟩ = some (.int .i64 qt.k) ∧ w'.cell? ⟨w5.heap.size, 1, none⟩ = some (.string qt.s) ∧ w'.cell? ⟨w5.heap.size, 2, none⟩ = some (.int .i64 qt.n) ∧ w'.cell? ⟨w5.heap.size, 3, none⟩ = some (.slice xa qt.l.length xc) ∧ w'.cell? ⟨w3.heap.size, 4, none⟩ = some (.int .i64 qf)) (with_reducible (first | exact K1' | exact KJ | exact inv_far KJ N1 N2 _ _ _ _)) (first | (go_at_call 21; ((with_reducible refine hlm.out.mono ?_); rintro e w8 ⟨H8, cs8, rfl, X8, R8⟩; have BV8 := Below.blk X8.below BV6.out; have M8 := Below.blk X8.below M3.out; have KJ : w8.cell? ⟨w5.heap.size, 0, none⟩ = some (.int .i64 qt.k) ∧ w8.cell? ⟨w5.heap.size, 1, none⟩ = some (.string qt.s) ∧ w8.cell? ⟨w5.heap.size, 2, none⟩ = some (.int .i64 qt.n) ∧ w8.cell? ⟨w5.heap.size, 3, none⟩ = some (.slice xa qt.l.length xc) ∧ w8.cell? ⟨w3.heap.size, 4, none⟩ = some (.int .i64 qf) := ⟨(box4 M8).2.1, (box4 M8).2.2.1, (box4 M8).2.2.2.1, (box4 M8).2.2.2.2.1, (iv04 BV8).2⟩; have HR8 := Lib.hid R8; obtain ⟨ya, yc, rfl, -, -, -, -⟩ := R8.open_; have B8 := Below.blk X8.below M2.out; obtain ⟨q0, q1, q2, q3, q4, q5, q6, q7, q8⟩ := box4 B8)))
            have n8 : H8 (w.heap.size + 1) = none := (X8.old _ (cell_lt M2.out)).trans n1
            have E8 := Lib.hid (E7.out.drew.then X8)
            have ST8 := Lib.hid ((ST6.out.below E7.out.agree (Below.refl _ _).drew).pure X8)
            generalize hY : Tm.lams l.length qt = Y at *
            clear hY R8 X8
            go_wp2_with fail
            refine bodyPost_ret (v := .tuple #[.agg #[.int .i64 Y.k, .string Y.s, .int .i64 Y.n, .slice ya Y.l.length yc], .int .i64 qf, .int .i64 0]) (by simp [results, Try.results19, go_sem, q0, q1, q2, q3, q4]) rfl ?_
            have T2 : Ext (fun k => k = w.heap.size + 1) H8 w8 H8 ((((w8.setCell ⟨w.heap.size + 1, 0, none⟩ (.int .i64 Y.k)).setCell ⟨w.heap.size + 1, 1, none⟩ (.string Y.s)).setCell ⟨w.heap.size + 1, 2, none⟩ (.int .i64 Y.n)).setCell ⟨w.heap.size + 1, 3, none⟩ (.slice ya Y.l.length yc)) :=
              ((((Ext.refl (O := fun k => k = w.heap.size + 1) E8.out.agree).setCell (p := ⟨w.heap.size + 1, 0, none⟩) n8 (fun _ => rfl) _).setCell (p := ⟨w.heap.size + 1, 1, none⟩) n8 (fun _ => rfl) _).setCell (p := ⟨w.heap.size + 1, 2, none⟩) n8 (fun _ => rfl) _).setCell (p := ⟨w.heap.size + 1, 3, none⟩) n8 (fun _ => rfl) _
            unfold InvertPost
            rw [hsp2.out]
            exact ⟨H8, _, rfl, E8.out.store4 n8 (Nat.le_succ _) _ _ _ _, HR8.out, (ST8.out.ext T2 (fun k hk hF => by subst hk; exact HNG.out hF)).mono HGG.out⟩
          · have he' : (qe == 0) = false := beq_eq_false_iff_ne.2 he
            rw [if_pos he] at hsp2
            obtain ⟨v0, v1, v2, v3, v4, v5, v6⟩ := box6 BV6.out
            obtain ⟨q0, q1, q2, q3, q4, q5, q6, q7, q8⟩ := box4 M2.out
            have hnv := HNV.out.1
            go_wp2_with fail
            generalize hW7 : w5.alloc (tbox qt xa xc) = W7 at *
            go_region
            go_wp2_with fail
            refine bodyPost_ret (v := .tuple #[.agg #[.int .i64 0, .string ⟨#[]⟩, .int .i64 0, .slice none 0 0], .int .i64 0, .int .i64 qe]) (by simp [results, Try.results19, go_sem, q0, q1, q2, q3, q4]) rfl ?_
            have T := (Ext.refl (O := fun _ => False) E7.out.agree)
            have T2 : Ext (fun k => k = w.heap.size + 1) H5 W7 H5 ((((W7.setCell ⟨w.heap.size + 1, 0, none⟩ (.int .i64 0)).setCell ⟨w.heap.size + 1, 1, none⟩ (.string ⟨#[]⟩)).setCell ⟨w.heap.size + 1, 2, none⟩ (.int .i64 0)).setCell ⟨w.heap.size + 1, 3, none⟩ (.slice none 0 0)) :=
              ((((Ext.refl (O := fun k => k = w.heap.size + 1) E7.out.agree).setCell (p := ⟨w.heap.size + 1, 0, none⟩) n1 (fun _ => rfl) _).setCell (p := ⟨w.heap.size + 1, 1, none⟩) n1 (fun _ => rfl) _).setCell (p := ⟨w.heap.size + 1, 2, none⟩) n1 (fun _ => rfl) _).setCell (p := ⟨w.heap.size + 1, 3, none⟩) n1 (fun _ => rfl) _
            exact invert_arg (E7.out.store4 n1 (Nat.le_succ _) _ _ _ _).drew ((ST6.out.ext T2 (fun k hk hF => by subst hk; exact HNG.out hF)).below T2.agree (Below.refl _ _).drew) HGG.out hsp2.out
end Go.Proofs.Ytbdappbmlnpogaa
