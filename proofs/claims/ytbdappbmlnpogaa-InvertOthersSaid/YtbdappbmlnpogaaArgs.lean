/- Package invert: Args. -/
import Derived.Test.YtbdappbmlnpogaaInv
namespace Go.Proofs.Ytbdappbmlnpogaa
open Go Go.RowKit
set_option maxRecDepth 100000
/-- What Full gives where there is no error. -/
theorem full_left {S : St} {M : Nat} {B : Int} {t : Tm} {f : Int} (hok : S.Ok M B) (hb : t.valid = true → t.bnd B = true) (hsz : t.size + f.toNat * M + M ≤ SB) (hB : B + f.toNat * SB + SB ≤ Tm.far) (he : (S.Full t f).2.2 = 0) :
    Tm.Fit (t.size + f.toNat * M) (B + f.toNat * SB) (S.Full t f).1 ∧ 0 ≤ (S.Full t f).2.1 ∧ (S.Full t f).2.1 ≤ f ∧ (S.Full t f).1.size + (S.Full t f).2.1.toNat * M ≤ t.size + f.toNat * M := by
  unfold St.Full at he ⊢
  split at he
  · rename_i h; exact absurd he h
  · rename_i h
    rw [if_neg h]
    simp only [ne_eq, Decidable.not_not] at h
    unfold St.runV at h ⊢
    split at h
    · simp at h
    · rename_i hv
      have hv : t.valid = true := by simpa using hv
      rw [if_neg (by simp [hv])]
      split at h
      · rename_i h0; exact absurd h h0
      · rename_i h0
        rw [if_neg h0]
        have h0 : (S.full t f).2.1 = 0 := by simpa using h0
        obtain ⟨a1, a2, a3, a4, a5⟩ := St.full_fit S M f.toNat B f.toNat (Nat.le_refl _) hok (by omega) t f (Nat.le_refl _) hv (hb hv) (by omega) h0
        dsimp only
        have hf : Tm.Fit (t.size + f.toNat * M) (B + f.toNat * SB) (S.full t f).1 := ⟨a1, by show (St.fullF S f.toNat t f).1.size ≤ _; omega, a5⟩
        obtain ⟨b1, b2⟩ := Tm.short_fit _ _ _ hf
        have a1' : (S.full t f).1.valid = true := a1
        have hsv : (S.full t f).1.shortV = (S.full t f).1.short := by unfold Tm.shortV; rw [if_pos a1']
        rw [hsv]
        refine ⟨b1, a3, a2, ?_⟩
        have : (S.full t f).1.size + (S.full t f).2.2.toNat * M ≤ t.size + f.toNat * M := a4
        omega
theorem leafV_k1 {t : Tm} (h : (t.leafV.1.k == 1) = true) : t.leafV.2 = true := by
  unfold Tm.leafV at h ⊢
  split at h
  · split at h
    · rename_i h1 h2; rw [if_pos h1, if_pos h2]
    · cases h
  · cases h
def ArgsPost (H : GH) (w : World) (r : List Tm × Int × Int) (e : Ending) (w' : World) : Prop :=
  ∃ H' v, e = .returned (.tuple #[v, .int .i64 r.2.1, .int .i64 r.2.2]) ∧ Pure H w H' w' ∧ Tms H' v r.1
def ArgsRel (S : St) (lv : Int) (l : List Tm) (f : Int) (R : List Tm × Int × Int) (H : GH) (W : World) (fv v i : Value) (wr : World) : Prop :=
  ∃ (j : Nat) (Hc : GH) (out : List Tm) (f' : Int), j ≤ l.length ∧ fv = .int .i64 f' ∧ i = .int .i64 j ∧ out.length ≤ j ∧ R = S.argsL lv out (l.drop j) f' ∧ f'.toNat ≤ f.toNat ∧ I64 f' ∧ Pure H W Hc wr ∧ Own Hc wr W.heap.size 30 4 (Rep Hc) v out
theorem args_no {H H' : GH} {w w' : World} {r : List Tm × Int × Int} {er : Int} (h : Pure H w H' w') (hr : r = ([], 0, er)) : ArgsPost H w r (.returned (.tuple #[.slice none 0 0, .int .i64 0, .int .i64 er])) w' := by
  subst hr
  exact ⟨H', _, rfl, h, Sl.nil _ _ _⟩
set_option maxHeartbeats 16000000 in
theorem invert_Args {F : Nat → Prop} (H : GH) (w : World) (s : Nat) (S : St) (M : Nat) (B : Int) (x : Int) (l : List Tm) (v : Value) (f : Int) (hA : Agree H w) (hS : StAt H w F s S) (hK : Tms H v l) (hk : l.length ≤ 1073741824)
    (hb : ∀ t ∈ l, t.valid = true → t.bnd B = true) (hok : S.Ok M B) (hsz : ∀ t ∈ l, t.size + f.toNat * M + M ≤ SB) (hB : B + f.toNat * SB + SB ≤ Tm.far) (hf : I64 f) :
    Calls Try.prog 20 #[.pointer (some ⟨s, 0, none⟩), .int .i64 x, v, .int .i64 f] w (ArgsPost H w (S.args x l f)) := by
  have hinf := Lib.hid (store_Info H w s S x hS)
  have HS := Lib.hid hS.tight
  obtain ⟨ka, kc, rfl, hkl, hkm⟩ := hK.form
  have hodd := Lib.hid (fun W hW => containsFunc 40 #[] (by intro args w; go_simp) (fun t => !t.valid) H W (.slice ka l.length kc) l hK hW (fun t _ cs' w' hw' hR' => invert_odd t cs' H w' hR' (hW.below hw')))
  have hargs := Lib.hid (show S.args x l f = if (S.info x).2 = false ∨ l.any (fun t => !t.valid) = true then ([], 0, 1) else S.argsL (S.info x).1.lv [] l f from rfl)
  generalize hI : S.info x = I at *
  obtain ⟨i, ok⟩ := I
  have HK := Lib.hid hK
  have HB := Lib.hid hb
  have HOK := Lib.hid hok
  have HSZ := Lib.hid hsz
  have HBF := Lib.hid hB
  clear hI hK hb hok hsz hB
  dsimp only at hargs
  go_enter Try.func20, Try.ntmps20
  go_wp2_with fail
  refine hinf.out.mono ?_
  rintro e w1 ⟨ics, rfl, hb1, hRI⟩
  have E1 := Lib.hid (Ext.of_below (O := fun _ => False) hA hb1)
  obtain ⟨tcs, rfl, hR1, hlv⟩ := hRI
  obtain ⟨ia, ic, rfl, -, -, -, -⟩ := hR1.open_
  have B2 := Lib.hid (heap_alloc_new w1 (.cells #[.int .i64 i.lv, .bool i.bd, .int .i64 i.vl.k, .string i.vl.s, .int .i64 i.vl.n, .slice ia i.vl.l.length ic] 37 (0, 0)))
  have E2 := Lib.hid (E1.out.alloc (.cells #[.int .i64 i.lv, .bool i.bd, .int .i64 i.vl.k, .string i.vl.s, .int .i64 i.vl.n, .slice ia i.vl.l.length ic] 37 (0, 0)))
  clear hinf hR1
  cases ok with
  | false =>
    go_wp2_with fail
    refine bodyPost_ret (v := .tuple #[.slice none 0 0, .int .i64 0, .int .i64 1]) (by simp [results, Try.results20, go_sem]) rfl ?_
    exact args_no E2.out (by rw [hargs.out]; simp)
  | true =>
    go_wp2_with fail
    refine (hodd.out _ E2.out.agree).mono ?_
    rintro e w2 ⟨rfl, hb2⟩
    have E3 := Lib.hid (E2.out.then_below hb2)
    have B3 := Lib.hid (Below.blk hb2 B2.out)
    cases hod : l.any (fun t => !t.valid) with
    | true =>
      have HOD := Lib.hid hod
      clear hod
      go_wp2_with fail
      refine bodyPost_ret (v := .tuple #[.slice none 0 0, .int .i64 0, .int .i64 1]) (by simp [results, Try.results20, go_sem]) rfl ?_
      exact args_no E3.out (by rw [hargs.out, HOD.out]; simp)
    | false =>
      have HOD := Lib.hid hod
      have hargs2 := Lib.hid (show S.args x l f = S.argsL i.lv [] l f by rw [hargs.out, hod]; simp)
      have hkN : (l.length : Int) ≤ 1073741824 := by omega
      have HS3 := Lib.hid (HS.out.pure E3.out)
      clear hod hodd
      go_wp2_with fail
      go_loopw [3, 13, 37] (fun fv v j wr => ArgsRel S i.lv l f (S.args x l f) H w2 fv v j wr) (fun _ _ j _ => l.length - (intOf j).toNat)
      case atStart => exact ⟨0, H, [], f, Nat.zero_le _, rfl, rfl, Nat.le_refl _, by rw [hargs2.out]; rfl, Nat.le_refl _, hf, Ext.refl E3.out.agree, Own.nil _ _ _ _ _ _⟩
      case round =>
        obtain ⟨j, Hc, out, f', hj, rfl, rfl, hoj, hR, hff, hf', EC, own⟩ := hrel
        obtain ⟨oa, oc, rfl, hol, hom⟩ := own.form
        have HEC := Lib.hid EC
        have HOWN := Lib.hid own
        have HR := Lib.hid hR
        have HB3 := Lib.hid (Below.blk EC.below B3.out)
        clear EC own hR
        by_cases hlt : j < l.length
        · obtain ⟨t, ht⟩ : ∃ t, l[j]? = some t := ⟨_, List.getElem?_eq_getElem hlt⟩
          obtain ⟨kb, ko, cs, rfl, -, hRt, hcell⟩ := HK.out.get ht
          have htm := List.mem_of_getElem? ht
          have hdr : l.drop j = t :: l.drop (j + 1) := by
            have e1 : l[j] = t := by rw [List.getElem?_eq_getElem hlt] at ht; injection ht
            rw [List.drop_eq_getElem_cons hlt, e1]
          have HDR := Lib.hid hdr
          have hmul : f'.toNat * M ≤ f.toNat * M := Nat.mul_le_mul_right _ hff
          have hmul2 : (f'.toNat : Int) * SB ≤ f.toNat * SB := Int.mul_le_mul_of_nonneg_right (by omega) (by omega)
          have hs1 := HSZ.out t htm
          have hs2 := HBF.out
          have hful := Lib.hid (fun W hW => store_Full Hc W s S M B t f' cs (HEC.out.then hW).agree ((HS3.out.pure HEC.out).pure hW) (hRt.mono HEC.out.sub) (HB.out t htm) HOK.out (by omega) (by omega) hf')
          have HFL := Lib.hid (fun he => full_left (S := S) (M := M) (B := B) (t := t) (f := f') HOK.out (HB.out t htm) (by omega) (by omega) he)
          have HTM := Lib.hid hs1
          obtain ⟨ta, tc, rfl, -, -, -, -⟩ := hRt.open_
          have c0 := HEC.out.agree.cell (GH.cell?_mono HEC.out.sub (hcell 0 _ rfl))
          have c1 := HEC.out.agree.cell (GH.cell?_mono HEC.out.sub (hcell 1 _ rfl))
          have c2 := HEC.out.agree.cell (GH.cell?_mono HEC.out.sub (hcell 2 _ rfl))
          have c3 := HEC.out.agree.cell (GH.cell?_mono HEC.out.sub (hcell 3 _ rfl))
          simp only [Nat.add_zero, ← Nat.add_assoc] at c0 c1 c2 c3
          have hbl := World.block_lt_of_cell? wr _ c0
          have E4 := Lib.hid ((Ext.refl (O := fun _ => False) HEC.out.agree).alloc (tbox t ta tc))
          clear ht hcell hdr hs1 hs2 hmul hmul2 htm hRt
          have hstep := Lib.hid (show S.argsL i.lv out (t :: l.drop (j + 1)) f' = _ from (by rw [St.argsL]))
          have HRR := Lib.hid (HR.out.trans ((congrArg (fun q => S.argsL i.lv out q f') HDR.out).trans hstep.out))
          generalize hr : S.Full t f' = r at *
          obtain ⟨u, f2, er⟩ := r
          dsimp only at HRR HFL
          clear hr hstep
          go_wp2_with fail
          refine (hful.out _ E4.out).mono ?_
          unfold RunPost
          rintro e w3 ⟨H3, ucs, rfl, X3, R3⟩
          dsimp only at R3
          have E5 := Lib.hid (HEC.out.then (E4.out.then X3))
          have OWN5 := Lib.hid (HOWN.out.pure (E4.out.then X3) (fun _ _ h => Rep.mono (E4.out.then X3).sub h))
          have HB5 := Lib.hid (Below.blk (E4.out.then X3).below HB3.out)
          have hleaf := Lib.hid (fun W hW hsz => eta_Leaf u ucs H3 W R3 hW hsz)
          obtain ⟨ua, uc, rfl, -, -, -, -⟩ := R3.open_
          have E6 := Lib.hid (E5.out.alloc (tbox u ua uc))
          have B6 := Lib.hid (heap_alloc_new w3 (tbox u ua uc))
          clear hful R3 X3
          by_cases her : er = 0
          · subst her
            rw [if_neg (by simp)] at HRR
            obtain ⟨g1, g2, g3, g4⟩ := HFL.out rfl
            have hus := g1.s
            have hss := HTM.out
            have hmul : f'.toNat * M ≤ f.toNat * M := Nat.mul_le_mul_right _ hff
            have hlf := Lib.hid (hleaf.out _ E6.out.agree (by omega))
            have hf2 : I64 f2 := by unfold I64 at hf' ⊢; omega
            have hff2 : f2.toNat ≤ f.toNat := by omega
            have HF2 := Lib.hid (show I64 f2 ∧ f2.toNat ≤ f.toNat from ⟨hf2, hff2⟩)
            clear hleaf g1 g2 g3 g4 hus hss hmul hf2 hff2 HFL
            have hk1 := Lib.hid (leafV_k1 (t := u))
            generalize hL : u.leafV = L at *
            obtain ⟨lf, lok⟩ := L
            dsimp only at hk1
            have HL := Lib.hid hL
            clear hL
            go_wp2_with fail
            refine hlf.out.mono ?_
            unfold LeafPost
            rw [HL.out]
            rintro e w4 ⟨H4, lcs, rfl, X4, R4⟩
            dsimp only at R4
            have E7 := Lib.hid (E6.out.then X4)
            have OWN7 := Lib.hid ((OWN5.out.alloc (tbox u ua uc)).pure X4 (fun _ _ h => Rep.mono X4.sub h))
            have HB7 := Lib.hid (Below.blk X4.below (Below.blk (below_alloc _ (tbox u ua uc)) HB5.out))
            have HR4 := Lib.hid R4
            obtain ⟨la, lc, rfl, -, -, -, -⟩ := R4.open_
            have E8 := Lib.hid (E7.out.alloc (tbox lf la lc))
            have B8 := Lib.hid (heap_alloc_new w4 (tbox lf la lc))
            have HB8 := Lib.hid (Below.blk (below_alloc _ (tbox lf la lc)) HB7.out)
            have OWN8 := Lib.hid (OWN7.out.alloc (tbox lf la lc))
            obtain ⟨H5, X8, hs5, ho5, hT5⟩ := OWN8.out.freeze_ext E8.out (Nat.le_refl _) (fun _ _ h => h.len)
            have hT5 : Tms H5 _ out := Sl.mono (Sub.refl _) (fun _ _ _ h => Rep.mono hs5 h) hT5
            have hcon := Lib.hid (fun W (hW : Below (w4.alloc (tbox lf la lc)).heap.size (w4.alloc (tbox lf la lc)) W) => containsFunc 45 #[.pointer (some ⟨w4.heap.size, 0, none⟩)] (by intro args w; go_simp) (fun v => v.alike lf) H5 W (.slice oa out.length oc) out hT5 (X8.agree.below hW) (fun t _ cs' w' hw' hR' => invert_Args1 lf la lc w4.heap.size t cs' H5 w' hR' (HR4.out.mono hs5) (Below.blk (hW.trans (hw'.mono hW.size)) B8.out)))
            clear X4 R4 hlf X8 hs5 ho5 hT5
            obtain ⟨p0, p1, p2, p3, p4, p5, p6, p7, p8⟩ := box4 B8.out
            obtain ⟨q0, q1, q2, q3, q4, q5, q6⟩ := box6 HB8.out
            clear p5 p6 p7 p8
            have HLO := Lib.hid (show out.length + 1 ≤ 2513169434916 by omega)
            have R4' := HR4
            cases h1 : (lf.k == 1) with
            | true =>
              have hlk := hk1.out h1
              subst hlk
              have H1 := Lib.hid h1
              by_cases hnr : lf.n ≤ i.lv
              · go_wp2_with fail
                refine (hcon.out _ (Below.refl _ _)).mono ?_
                rintro e w5 ⟨rfl, hb5⟩
                go_wp2_with fail
                refine bodyPost_ret (v := .tuple #[.slice none 0 0, .int .i64 0, .int .i64 171]) (by simp [results, Try.results20, go_sem]) rfl ?_
                exact args_no (E3.out.then (E8.out.then_below hb5)) (by rw [HRR.out, if_pos (.inr (.inl ⟨beq_iff_eq.1 H1.out, hnr⟩))])
              · cases htw : out.any (fun v => v.alike lf) with
                | true =>
                  have HTW := Lib.hid htw
                  rw [htw] at hcon
                  clear htw
                  go_wp2_with fail
                  refine (hcon.out _ (Below.refl _ _)).mono ?_
                  rintro e w5 ⟨rfl, hb5⟩
                  go_wp2_with fail
                  refine bodyPost_ret (v := .tuple #[.slice none 0 0, .int .i64 0, .int .i64 171]) (by simp [results, Try.results20, go_sem]) rfl ?_
                  exact args_no (E3.out.then (E8.out.then_below hb5)) (by rw [HRR.out, if_pos (.inr (.inr HTW.out))])
                | false =>
                  have HTW := Lib.hid htw
                  rw [htw] at hcon
                  clear htw
                  go_wp2_with fail
                  refine (hcon.out _ (Below.refl _ _)).mono ?_
                  rintro e w5 ⟨rfl, hb5⟩
                  obtain ⟨p0, p1, p2, p3, p4, p5, p6, p7, p8⟩ := box4 (Below.blk hb5 B8.out)
                  have own5 := OWN8.out.below hb5
                  have E9 := E8.out.then_below hb5
                  go_wp2_with (at_builtin; refine wpList_own1 rfl _ _ rfl isSl_tms (.slice oa out.length oc) rfl w5.heap.size 1 rfl (own5.alloc _) (E9.agree.alloc _) (Nat.le_trans E9.size (by simp)) _ (heap_alloc_new w5 _) lf HR4.out rfl HR4.out.one (by have := HLO.out; unfold maxLen; omega) (by have := HLO.out; omega) ?_; intro v' w' own' hg' hb')
                  go_roundw
                  case rel =>
                    refine ⟨j + 1, H4, out ++ [lf], f2, by omega, rfl, by go_num, by simp; omega, ?_, HF2.out.2, HF2.out.1, (E9.alloc _).grown hg' own5.free (fun g hg hlt => absurd hlt (Nat.not_lt.2 (own5.lt g hg).1)), own'⟩
                    rw [HRR.out, if_neg]
                    rintro (h | ⟨-, h⟩ | h)
                    · cases h
                    · omega
                    · rw [HTW.out] at h; cases h
                  case measure => simp [intOf]; omega
            | false =>
              have H1 := Lib.hid h1
              cases lok with
              | false =>
                go_wp2_with fail
                refine (hcon.out _ (Below.refl _ _)).mono ?_
                rintro e w5 ⟨rfl, hb5⟩
                go_wp2_with fail
                refine bodyPost_ret (v := .tuple #[.slice none 0 0, .int .i64 0, .int .i64 171]) (by simp [results, Try.results20, go_sem]) rfl ?_
                exact args_no (E3.out.then (E8.out.then_below hb5)) (by rw [HRR.out, if_pos (by simp)])
              | true =>
                cases htw : out.any (fun v => v.alike lf) with
                | true =>
                  have HTW := Lib.hid htw
                  rw [htw] at hcon
                  clear htw
                  go_wp2_with fail
                  refine (hcon.out _ (Below.refl _ _)).mono ?_
                  rintro e w5 ⟨rfl, hb5⟩
                  go_wp2_with fail
                  refine bodyPost_ret (v := .tuple #[.slice none 0 0, .int .i64 0, .int .i64 171]) (by simp [results, Try.results20, go_sem]) rfl ?_
                  exact args_no (E3.out.then (E8.out.then_below hb5)) (by rw [HRR.out, if_pos (.inr (.inr HTW.out))])
                | false =>
                  have HTW := Lib.hid htw
                  rw [htw] at hcon
                  clear htw
                  go_wp2_with fail
                  refine (hcon.out _ (Below.refl _ _)).mono ?_
                  rintro e w5 ⟨rfl, hb5⟩
                  obtain ⟨p0, p1, p2, p3, p4, p5, p6, p7, p8⟩ := box4 (Below.blk hb5 B8.out)
                  have own5 := OWN8.out.below hb5
                  have E9 := E8.out.then_below hb5
                  go_wp2_with (at_builtin; refine wpList_own1 rfl _ _ rfl isSl_tms (.slice oa out.length oc) rfl w5.heap.size 1 rfl (own5.alloc _) (E9.agree.alloc _) (Nat.le_trans E9.size (by simp)) _ (heap_alloc_new w5 _) lf HR4.out rfl HR4.out.one (by have := HLO.out; unfold maxLen; omega) (by have := HLO.out; omega) ?_; intro v' w' own' hg' hb')
                  go_roundw
                  case rel =>
                    refine ⟨j + 1, H4, out ++ [lf], f2, by omega, rfl, by go_num, by simp; omega, ?_, HF2.out.2, HF2.out.1, (E9.alloc _).grown hg' own5.free (fun g hg hlt => absurd hlt (Nat.not_lt.2 (own5.lt g hg).1)), own'⟩
                    rw [HRR.out, if_neg]
                    rintro (h | ⟨h, -⟩ | h)
                    · cases h
                    · have := beq_eq_false_iff_ne.1 H1.out; exact this h
                    · rw [HTW.out] at h; cases h
                  case measure => simp [intOf]; omega
          · have her' : (er == 0) = false := beq_eq_false_iff_ne.2 her
            rw [if_pos her] at HRR
            go_wp2_with fail
            refine bodyPost_ret (v := .tuple #[.slice none 0 0, .int .i64 0, .int .i64 er]) (by simp [results, Try.results20, go_sem]) rfl ?_
            exact args_no (E3.out.then E6.out) HRR.out
        · have hjl : j = l.length := by omega
          obtain ⟨H2, X2, hs2, ho2, hT2⟩ := HOWN.out.freeze_ext HEC.out (Nat.le_refl _) (fun _ _ h => h.len)
          have hT2 : Tms H2 _ out := Sl.mono (Sub.refl _) (fun _ _ _ h => Rep.mono hs2 h) hT2
          have EF := Lib.hid (E3.out.then X2)
          have HT2 := Lib.hid hT2
          have hr := HR.out
          rw [hjl, List.drop_length, St.argsL] at hr
          have HRF := Lib.hid hr
          clear hr hT2 hs2 ho2 X2
          go_wp2_with fail
          refine bodyPost_ret (v := .tuple #[.slice oa out.length oc, .int .i64 f', .int .i64 0]) (by simp [results, Try.results20, go_sem]) rfl ?_
          unfold ArgsPost
          rw [HRF.out]
          exact ⟨H2, _, rfl, EF.out, HT2.out⟩
end Go.Proofs.Ytbdappbmlnpogaa
