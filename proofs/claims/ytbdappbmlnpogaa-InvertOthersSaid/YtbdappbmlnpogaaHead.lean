/- Package store in memory: step in one, head. -/
import Derived.Test.YtbdappbmlnpogaaStepb
namespace Go.Proofs.Ytbdappbmlnpogaa
open Go Go.RowKit
set_option maxRecDepth 100000
theorem store_step {F : Nat → Prop} (H : GH) (w : World) (s : Nat) (S : St) (M : Nat) (B : Int) (t : Tm) (cs : List Value) (hA : Agree H w) (hS : StAt H w F s S) (hR : Rep H t cs) (hv : t.valid = true) (hok : S.Ok M B) (hsz : t.size + M ≤ SB) :
    Calls Try.prog 79 #[.pointer (some ⟨s, 0, none⟩), .agg cs.toArray] w (StepPost H w S t) := by
  cases h1 : (S.value t).2 with
  | true => exact step_val H w s S t cs hA hS hR h1
  | false =>
    by_cases h6 : t.k = 6
    · obtain ⟨y, hy, -, hyv, hl2, -⟩ := step_prep (S := S) hv h6
      cases h2 : (S.value y).2 with
      | true => exact step_appval H w s S M B t cs hA hS hR h1 h6 hv hok hsz y hy h2
      | false =>
        by_cases h5 : y.k = 5
        · obtain ⟨bd, hb⟩ : ∃ bd, y.l = [bd] := by
            cases y with
            | mk k s n l =>
              simp only [Tm.k_mk, Tm.l_mk] at h5 ⊢
              subst h5
              exact List.length_eq_one_iff.1 (Tm.ok1_lam.1 ((Tm.valid_iff ..).1 hyv).1).2.2
          obtain ⟨x1, hx1⟩ : ∃ x, t.l[1]? = some x := ⟨_, List.getElem?_eq_getElem (by omega)⟩
          exact step_beta H w s S M B t cs hA hS hR h1 h6 hv hok hsz y hy h2 h5 bd hb x1 hx1
        · exact step_appleaf H w s S M B t cs hA hS hR h1 h6 hv hok hsz y hy h2 h5
    · exact step_leaf H w s S t cs hA hS hR h1 h6
def HeadPost (fb : Nat) (H : GH) (w : World) (S : St) (t : Tm) (f : Int) (e : Ending) (w' : World) : Prop :=
  ∃ H' cs', e = .returned (.tuple #[.agg cs'.toArray, .int .i64 (S.head t f).2.1]) ∧ Ext (fun k => k = fb) H w H' w' ∧ Rep H' (S.head t f).1 cs' ∧ w'.heap[fb]? = some (.cells #[.int .i64 (S.head t f).2.2] 3 (0, 0))
/-- What holds at the head of the loop. -/
def HeadRel (fb : Nat) (F : Nat → Prop) (s : Nat) (M : Nat) (H : GH) (w : World) (S : St) (t : Tm) (f : Int) (wr : World) : Prop :=
  ∃ (Hc : GH) (t' : Tm) (f' B : Int) (a : Option Addr) (cap : Nat), S.head t f = S.head t' f' ∧ t'.valid = true ∧ t'.bnd B = true ∧ S.Ok M B ∧ t'.size + f'.toNat * M + M ≤ SB ∧ B + f'.toNat * SB + SB ≤ Tm.far ∧ I64 f' ∧
    Ext (fun k => k = fb) H w Hc wr ∧ Rep Hc t' (tcells t' a cap).toList ∧ wr.heap[w.heap.size]? = some (tbox t' a cap) ∧ wr.heap[w.heap.size + 1]? = some zbox ∧ wr.heap[fb]? = some (.cells #[.int .i64 f'] 3 (0, 0)) ∧ StAt Hc wr F s S ∧ Hc (w.heap.size) = none ∧ Hc (w.heap.size + 1) = none ∧ Hc fb = none
set_option maxHeartbeats 8000000 in
theorem store_head_tight {F : Nat → Prop} (fb : Nat) (H : GH) (w : World) (s : Nat) (S : St) (M : Nat) (B : Int) (t : Tm) (f : Int) (cs : List Value) (hA : Agree H w) (hS : StAt H w F s S) (hR : Rep H t cs) (hv : t.valid = true) (hb : t.bnd B = true) (hok : S.Ok M B) (hsz : t.size + f.toNat * M + M ≤ SB) (hB : B + f.toNat * SB + SB ≤ Tm.far) (hf : I64 f)
    (hfb : w.heap[fb]? = some (.cells #[.int .i64 f] 3 (0, 0))) (hfH : H fb = none) (hfF : ¬ F fb) (hFl : ∀ k, F k → k < w.heap.size) :
    Calls Try.prog 59 #[.pointer (some ⟨s, 0, none⟩), .agg cs.toArray, .pointer (some ⟨fb, 0, none⟩)] w (HeadPost fb H w S t f) := by
  have HR := Lib.hid hR
  obtain ⟨a, cap, rfl, -, -, -, -⟩ := hR.open_
  obtain ⟨E0, B0, B1, hn⟩ := enter1 t a cap H w hA
  have hlt := cell_lt hfb
  have hrel : HeadRel fb F s M H w S t f ((w.alloc (tbox t a cap)).alloc zbox) := ⟨H, t, f, B, a, cap, rfl, hv, hb, hok, hsz, hB, hf, E0.mono (fun _ h => h.elim), HR.out, B0, B1, (Below.blk (below_alloc _ _) (Below.blk (below_alloc _ _) hfb)), hS.pure E0, hA.free (Nat.le_refl _), hn, hfH⟩
  have HREL := Lib.hid hrel
  have HFF := Lib.hid hfF
  have HFL := Lib.hid hFl
  clear hrel hfF hFl hS hv hb hok hsz hB hf hfb hfH hn B0 B1 E0 hR HR
  go_enter Try.func59, Try.ntmps59
  go_wp2_with fail
  go_loopw [] (fun wr => HeadRel fb F s M H w S t f wr) (fun wr => (intOf ((wr.cell? ⟨fb, 0, none⟩).getD undef)).toNat)
  case atStart => exact HREL.out
  case round =>
    obtain ⟨Hc, t', f', B', a', cap', r1, r2, r3, r4, r5, r6, r7, EC, RC, C0, C1, C2, SC, n0, n1, n2⟩ := hrel
    have hstep := Lib.hid (store_step Hc wr s S M B' t' _ EC.agree SC RC r2 r4 (by have := Nat.zero_le (f'.toNat * M); omega))
    have hhd := Lib.hid (St.head_eq S t' f')
    have RC' := Lib.hid RC
    obtain ⟨p0, p1, p2, p3, p4, p5, p6, p7, p8⟩ := box4 C0
    obtain ⟨q0, q1, q2, q3, q4, q5, q6, q7, q8⟩ := box4 C1
    obtain ⟨g0, g1⟩ := blk_cell C2
    have g2 := cell_lt C2
    have R1 := Lib.hid r1
    have R4 := Lib.hid r4
    have R5 := Lib.hid r5
    have HC0 := Lib.hid C0
    have HC1 := Lib.hid C1
    have HC2 := Lib.hid C2
    have HSC := Lib.hid SC
    have hfit : ∀ r, S.step t' = (r, true, 0) → Tm.Fit (t'.size + M) (B' + SB) r := fun r hr => by
      have := St.step_fit r4 (t := t') ⟨r2, Nat.le_refl _, r3⟩ (by have := Nat.zero_le (f'.toNat * M); omega) (by have : (0 : Int) ≤ f'.toNat * SB := Int.mul_nonneg (by omega) (by omega); omega) (by rw [hr]) (by rw [hr])
      rwa [hr] at this
    have HFIT := Lib.hid hfit
    clear hfit r1 r2 r3 r4 r5 C0 C1 C2 SC RC
    unfold I64 at r7
    obtain ⟨r7a, r7b⟩ := r7
    have hw1 := IntWalk.i64_in (f' - 1)
    go_wp2_with fail
    refine hstep.out.mono ?_
    unfold StepPost
    generalize hS' : S.step t' = st at *
    obtain ⟨u, is, er⟩ := st
    dsimp only at hhd
    rintro e w2 ⟨H2, ucs, rfl, X2, R2⟩
    have HR2 := Lib.hid R2
    have HX2 := Lib.hid X2
    obtain ⟨ua, uc, rfl, -, -, -, -⟩ := R2.open_
    have D0 := Lib.hid (Below.blk X2.below HC0.out)
    have D1 := Lib.hid (Below.blk X2.below HC1.out)
    have D2 := Lib.hid (Below.blk X2.below HC2.out)
    have E2 := Lib.hid (EC.then X2)
    have m0 := (X2.old _ p0).trans n0
    have m1 := (X2.old _ q0).trans n1
    have m2 := (X2.old _ g2).trans n2
    have HS' := Lib.hid hS'
    clear p0 p1 p2 p3 p4 p5 p6 p7 p8 q0 q1 q2 q3 q4 q5 q6 q7 q8 g0 g1 g2 X2 R2 hS' hstep n0 n1 n2 EC
    obtain ⟨p0, p1, p2, p3, p4, p5, p6, p7, p8⟩ := box4 D0.out
    obtain ⟨q0, q1, q2, q3, q4, q5, q6, q7, q8⟩ := box4 D1.out
    obtain ⟨g0, g1⟩ := blk_cell D2.out
    have g2 := cell_lt D2.out
    cases is with
    | false =>
      have hout : Hid (S.head t f = (t', 0, f')) := Lib.hid (by rw [R1.out, hhd.out, if_pos rfl])
      go_wp2_with fail
      refine bodyPost_ret (v := .tuple #[.agg #[.int .i64 t'.k, .string t'.s, .int .i64 t'.n, .slice a' t'.l.length cap'], .int .i64 0]) (by simp [results, Try.results59, go_sem, q0, q1, q2, q3, q4]) rfl ?_
      unfold HeadPost
      rw [hout.out]
      exact ⟨H2, _, rfl, (E2.out.store4 m1 (by omega) _ _ _ _).alloc _, RC'.out.mono HX2.out.sub, Below.blk (below_alloc _ _) ((blk_far4 _ _ _ _ (by omega)).trans D2.out)⟩
    | true =>
      by_cases her : er = 0
      · subst her
        by_cases hf0 : f' ≤ 0
        · have hout : Hid (S.head t f = (Tm.zero, 80, f')) := Lib.hid (by rw [R1.out, hhd.out, if_neg (by simp), if_pos (.inr hf0)])
          go_wp2_with fail
          refine bodyPost_ret (v := .tuple #[.agg #[.int .i64 0, .string ⟨#[]⟩, .int .i64 0, .slice none 0 0], .int .i64 80]) (by simp [results, Try.results59, go_sem, q0, q1, q2, q3, q4]) rfl ?_
          unfold HeadPost
          rw [hout.out]
          exact ⟨H2, _, rfl, (E2.out.store4 m1 (by omega) _ _ _ _).alloc _, rep_zero H2, Below.blk (below_alloc _ _) ((blk_far4 _ _ _ _ (by omega)).trans D2.out)⟩
        · have hfit := HFIT.out u rfl
          have hM : f'.toNat * M = (f' - 1).toNat * M + M := by rw [show f'.toNat = (f' - 1).toNat + 1 by omega, Nat.succ_mul]
          have hSB : (f'.toNat : Int) * SB = ((f' - 1).toNat : Int) * SB + SB := by
            rw [show f'.toNat = (f' - 1).toNat + 1 by omega]
            push_cast
            rw [Int.add_mul]
            omega
          have F1 := Lib.hid hfit
          have F2 := Lib.hid (show u.size + (f' - 1).toNat * M + M ≤ SB by have := hfit.s; have := R5.out; omega)
          have F3 := Lib.hid (show B' + SB + (f' - 1).toNat * SB + SB ≤ Tm.far by omega)
          clear hfit hM hSB r6
          go_wp2_with fail
          go_roundw
          case rel =>
            have T0 : Ext (fun k => k = fb) H2 w2 H2 (w2.setCell ⟨fb, 0, none⟩ (.int .i64 (f' - 1))) := (Ext.refl (O := fun k => k = fb) HX2.out.agree).setCell (p := ⟨fb, 0, none⟩) m2 (fun _ => rfl) _
            have T1 : Ext (fun k => k = fb ∨ k = w.heap.size) H2 w2 H2 (((((w2.setCell ⟨fb, 0, none⟩ (.int .i64 (f' - 1))).setCell ⟨w.heap.size, 0, none⟩ (.int .i64 u.k)).setCell ⟨w.heap.size, 1, none⟩ (.string u.s)).setCell ⟨w.heap.size, 2, none⟩ (.int .i64 u.n)).setCell ⟨w.heap.size, 3, none⟩ (.slice ua u.l.length uc)) :=
              ((((T0.mono (O' := fun k => k = fb ∨ k = w.heap.size) (fun k h => .inl h)).setCell (p := ⟨w.heap.size, 0, none⟩) m0 (fun _ => .inr rfl) _).setCell (p := ⟨w.heap.size, 1, none⟩) m0 (fun _ => .inr rfl) _).setCell (p := ⟨w.heap.size, 2, none⟩) m0 (fun _ => .inr rfl) _).setCell (p := ⟨w.heap.size, 3, none⟩) m0 (fun _ => .inr rfl) _
            have ST := ((HSC.out.pure HX2.out).ext T1 (fun k hk hF => by
              rcases hk with e | e
              · subst e; exact HFF.out hF
              · subst e; have := HFL.out _ hF; omega)).below T1.agree (below_alloc _ (tbox u ua uc))
            have D0' : (w2.setCell ⟨fb, 0, none⟩ (.int .i64 (f' - 1))).heap[w.heap.size]? = some (tbox t' a' cap') := (Below.heap_setCell w2 ⟨fb, 0, none⟩ _ w.heap.size (by simp; omega)).trans D0.out
            have D1' : (w2.setCell ⟨fb, 0, none⟩ (.int .i64 (f' - 1))).heap[w.heap.size + 1]? = some zbox := (Below.heap_setCell w2 ⟨fb, 0, none⟩ _ (w.heap.size + 1) (by simp; omega)).trans D1.out
            refine ⟨H2, u, f' - 1, B' + SB, ua, uc, ?_, F1.out.v, F1.out.b, R4.out.mono (by omega), F2.out, F3.out, by unfold I64; omega, ?_, HR2.out, ?_, ?_, ?_, ST, m0, m1, m2⟩
            · rw [R1.out, hhd.out, if_neg (by simp), if_neg (by simp; omega)]
            · exact ((E2.out.setCell (p := ⟨fb, 0, none⟩) m2 (fun _ => rfl) _).store4 m0 (Nat.le_refl _) _ _ _ _).alloc _
            · exact Below.blk (below_alloc _ _) (blk_set4 _ _ _ _ D0')
            · exact Below.blk (below_alloc _ _) ((blk_far4 _ _ _ _ (by omega)).trans D1')
            · exact Below.blk (below_alloc _ _) ((blk_far4 _ _ _ _ (by omega)).trans (blk_set D2.out))
          case measure =>
            have z1 := (blk_cell (Below.blk (below_alloc _ (tbox u ua uc)) ((blk_far4 (w := w2.setCell ⟨fb, 0, none⟩ (.int .i64 (f' - 1))) (b := w.heap.size) (k := fb) (.int .i64 u.k) (.string u.s) (.int .i64 u.n) (.slice ua u.l.length uc) (by omega)).trans (blk_set D2.out)))).1
            have z2 := (blk_cell HC2.out).1
            rw [z1, z2]
            simp only [Option.getD_some, intOf]
            omega
      · have hout : Hid (S.head t f = (Tm.zero, 80, f')) := Lib.hid (by rw [R1.out, hhd.out, if_neg (by simp), if_pos (.inl her)])
        have her' : (er != 0) = true := by rw [bne_iff_ne]; exact her
        go_wp2_with fail
        refine bodyPost_ret (v := .tuple #[.agg #[.int .i64 0, .string ⟨#[]⟩, .int .i64 0, .slice none 0 0], .int .i64 80]) (by simp [results, Try.results59, go_sem, q0, q1, q2, q3, q4]) rfl ?_
        unfold HeadPost
        rw [hout.out]
        exact ⟨H2, _, rfl, (E2.out.store4 m1 (by omega) _ _ _ _).alloc _, rep_zero H2, Below.blk (below_alloc _ _) ((blk_far4 _ _ _ _ (by omega)).trans D2.out)⟩
theorem StAt.tight {H : GH} {w : World} {F : Nat → Prop} {s : Nat} {S : St} (h : StAt H w F s S) : StAt H w (fun k => F k ∧ k < w.heap.size) s S := by
  obtain ⟨vi, vt, h1, h2, h3, h4, h5, h6, h7⟩ := h
  exact ⟨vi, vt, h1, h2, ⟨h3, cell_lt h1⟩, h4, h5, fun g hg => ⟨⟨(h6 g hg).1, (h4.lt g hg).2⟩, (h6 g hg).2⟩, fun g hg => ⟨⟨(h7 g hg).1, (h5.lt g hg).2⟩, (h7 g hg).2⟩⟩
/-- store.head. -/
theorem store_head {F : Nat → Prop} (fb : Nat) (H : GH) (w : World) (s : Nat) (S : St) (M : Nat) (B : Int) (t : Tm) (f : Int) (cs : List Value) (hA : Agree H w) (hS : StAt H w F s S) (hR : Rep H t cs) (hv : t.valid = true) (hb : t.bnd B = true) (hok : S.Ok M B) (hsz : t.size + f.toNat * M + M ≤ SB) (hB : B + f.toNat * SB + SB ≤ Tm.far) (hf : I64 f)
    (hfb : w.heap[fb]? = some (.cells #[.int .i64 f] 3 (0, 0))) (hfH : H fb = none) (hfF : ¬ F fb) :
    Calls Try.prog 59 #[.pointer (some ⟨s, 0, none⟩), .agg cs.toArray, .pointer (some ⟨fb, 0, none⟩)] w (HeadPost fb H w S t f) :=
  store_head_tight fb H w s S M B t f cs hA hS.tight hR hv hb hok hsz hB hf hfb hfH (fun h => hfF h.1) (fun _ h => h.2)
end Go.Proofs.Ytbdappbmlnpogaa
