/- Package store in memory: Head, Full. -/
import Derived.Test.YtbdappbmlnpogaaRun
namespace Go.Proofs.Ytbdappbmlnpogaa
open Go Go.RowKit
set_option maxRecDepth 100000
set_option maxHeartbeats 4000000 in
theorem store_Head {F : Nat → Prop} (H : GH) (w : World) (s : Nat) (S : St) (M : Nat) (B : Int) (t : Tm) (f : Int) (cs : List Value) (hA : Agree H w) (hS : StAt H w F s S) (hR : Rep H t cs) (hb : t.valid = true → t.bnd B = true) (hok : S.Ok M B) (hsz : t.size + f.toNat * M + M ≤ SB) (hB : B + f.toNat * SB + SB ≤ Tm.far) (hf : I64 f) :
    Calls Try.prog 66 #[.pointer (some ⟨s, 0, none⟩), .agg cs.toArray, .int .i64 f] w (RunPost H w (S.Head t f)) := by
  have hrun := Lib.hid (fun W (hW : Pure H w H W) => store_run 59 s S.head H W t f cs hW.agree hR (by intro args w; go_simp)
    (fun hv fb W2 h1 h2 h3 h4 => store_head fb H W2 s S M B t f cs h2.agree ((hS.tight.pure hW).pure h2) hR hv (hb hv) hok hsz hB hf h3 h4 (fun h => by have := h.2; have := hW.size; omega)))
  obtain ⟨a, cap, rfl, -, -, -, -⟩ := hR.open_
  obtain ⟨E0, B0, B1, hn⟩ := enter1 t a cap H w hA
  have E0 := Lib.hid E0
  have B1 := Lib.hid B1
  have ho := Lib.hid (show S.Head t f = St.runV S.head t f from rfl)
  clear hR hS hb hok hsz hB B0
  go_enter Try.func66, Try.ntmps66
  go_wp2_with fail
  refine (hrun.out _ E0.out).mono ?_
  unfold RunPost
  generalize St.runV S.head t f = r at *
  obtain ⟨u, l1, er⟩ := r
  rintro e w2 ⟨H2, ucs, rfl, X2, R2⟩
  dsimp only at R2
  have HR2 := Lib.hid R2
  obtain ⟨ua, uc, rfl, -, -, -, -⟩ := R2.open_
  obtain ⟨q0, q1, q2, q3, q4, q5, q6, q7, q8⟩ := box4 (Below.blk X2.below B1.out)
  have k2 := (X2.old _ (cell_lt B1.out)).trans hn
  have E3 := Lib.hid ((E0.out.then X2).store4 k2 (by omega) (.int .i64 u.k) (.string u.s) (.int .i64 u.n) (.slice ua u.l.length uc))
  clear hrun X2 R2
  go_wp2_with fail
  exact bodyPost_ret (v := .tuple #[.agg #[.int .i64 u.k, .string u.s, .int .i64 u.n, .slice ua u.l.length uc], .int .i64 l1, .int .i64 er]) (by simp [results, Try.results66, go_sem, q0, q1, q2, q3, q4]) rfl (by unfold RunPost; rw [ho.out]; exact ⟨H2, _, rfl, E3.out, HR2.out⟩)
/-- What Full does first is no larger than this. -/
theorem runV_size {S : St} {M : Nat} {B : Int} {t : Tm} {f : Int} (hok : S.Ok M B) (hb : t.valid = true → t.bnd B = true) (hsz : t.size + f.toNat * M + M ≤ SB) (hB : B + f.toNat * SB + SB ≤ Tm.far) : (St.runV S.full t f).1.size ≤ SB := by
  unfold St.runV
  have hz : Tm.zero.size ≤ SB := by unfold SB Tm.zero; rw [Tm.size_mk]; simp
  split
  · exact hz
  · rename_i hv
    have hv : t.valid = true := by simpa using hv
    split
    · exact hz
    · rename_i h0
      obtain ⟨-, -, -, h, -⟩ := St.full_fit S M f.toNat B f.toNat (Nat.le_refl _) hok (by omega) t f (Nat.le_refl _) hv (hb hv) (by omega) (by simpa [St.full] using h0)
      show (St.fullF S f.toNat t f).1.size ≤ SB
      omega
set_option maxHeartbeats 4000000 in
theorem store_Full {F : Nat → Prop} (H : GH) (w : World) (s : Nat) (S : St) (M : Nat) (B : Int) (t : Tm) (f : Int) (cs : List Value) (hA : Agree H w) (hS : StAt H w F s S) (hR : Rep H t cs) (hb : t.valid = true → t.bnd B = true) (hok : S.Ok M B) (hsz : t.size + f.toNat * M + M ≤ SB) (hB : B + f.toNat * SB + SB ≤ Tm.far) (hf : I64 f) :
    Calls Try.prog 13 #[.pointer (some ⟨s, 0, none⟩), .agg cs.toArray, .int .i64 f] w (RunPost H w (S.Full t f)) := by
  have hrun := Lib.hid (fun W (hW : Pure H w H W) => store_run 34 s S.full H W t f cs hW.agree hR (by intro args w; go_simp)
    (fun hv fb W2 h1 h2 h3 h4 => store_full fb H W2 s S M B t f cs h2.agree ((hS.tight.pure hW).pure h2) hR hv (hb hv) hok hsz hB hf h3 h4 (fun h => by have := h.2; have := hW.size; omega)))
  have hrs := Lib.hid (runV_size hok hb hsz hB)
  obtain ⟨a, cap, rfl, -, -, -, -⟩ := hR.open_
  obtain ⟨E0, B0, B1, hn⟩ := enter1 t a cap H w hA
  have E0 := Lib.hid E0
  have B1 := Lib.hid B1
  have ho := Lib.hid (show S.Full t f = if (St.runV S.full t f).2.2 ≠ 0 then (Tm.zero, 0, (St.runV S.full t f).2.2) else ((St.runV S.full t f).1.shortV, (St.runV S.full t f).2.1, 0) from rfl)
  clear hR hS hb hok hsz hB B0
  go_enter Try.func13, Try.ntmps13
  go_wp2_with fail
  refine (hrun.out _ E0.out).mono ?_
  unfold RunPost
  generalize St.runV S.full t f = r at *
  obtain ⟨u, l1, er⟩ := r
  dsimp only at hrs
  rintro e w2 ⟨H2, ucs, rfl, X2, R2⟩
  dsimp only at R2
  have hsh := Lib.hid (fun W hW => eta_Short u ucs H2 W R2 hW hrs.out)
  obtain ⟨ua, uc, rfl, -, -, -, -⟩ := R2.open_
  have q := Lib.hid (Below.blk X2.below B1.out)
  obtain ⟨q0, q1, q2, q3, q4, q5, q6, q7, q8⟩ := box4 q.out
  have k2 := (X2.old _ (cell_lt B1.out)).trans hn
  have E2 := Lib.hid (E0.out.then X2)
  clear hrun X2 R2
  by_cases her : er = 0
  · subst her
    have E3 := Lib.hid (E2.out.alloc (tbox u ua uc))
    have q' := Lib.hid (Below.blk (below_alloc w2 (tbox u ua uc)) q.out)
    go_wp2_with fail
    refine (hsh.out _ E3.out.agree).mono ?_
    unfold ShortVPost
    generalize hY : u.shortV = Y at *
    rintro e w3 ⟨H3, ycs, rfl, X3, R3⟩
    have HR3 := Lib.hid R3
    obtain ⟨ya, yc, rfl, -, -, -, -⟩ := R3.open_
    have k3 := (X3.old _ (cell_lt q'.out)).trans k2
    have E4 := Lib.hid ((E3.out.then X3).store4 k3 (by omega) (.int .i64 Y.k) (.string Y.s) (.int .i64 Y.n) (.slice ya Y.l.length yc))
    clear q0 q1 q2 q3 q4 q5 q6 q7 q8
    obtain ⟨q0, q1, q2, q3, q4, q5, q6, q7, q8⟩ := box4 (Below.blk X3.below q'.out)
    clear X3 R3 hsh
    go_wp2_with fail
    refine bodyPost_ret (v := .tuple #[.agg #[.int .i64 Y.k, .string Y.s, .int .i64 Y.n, .slice ya Y.l.length yc], .int .i64 l1, .int .i64 0]) (by simp [results, Try.results13, go_sem, q0, q1, q2, q3, q4]) rfl ?_
    unfold RunPost
    rw [ho.out, if_neg (by simp)]
    exact ⟨H3, _, rfl, E4.out, HR3.out⟩
  · have her' : (er != 0) = true := by rw [bne_iff_ne]; exact her
    have E3 := Lib.hid ((E2.out.store4 k2 (by omega) (.int .i64 0) (.string ⟨#[]⟩) (.int .i64 0) (.slice none 0 0)).alloc (tbox u ua uc))
    go_wp2_with fail
    refine bodyPost_ret (v := .tuple #[.agg #[.int .i64 0, .string ⟨#[]⟩, .int .i64 0, .slice none 0 0], .int .i64 0, .int .i64 er]) (by simp [results, Try.results13, go_sem, q0, q1, q2, q3, q4]) rfl ?_
    unfold RunPost
    rw [ho.out, if_pos her]
    exact ⟨H2, _, rfl, E3.out, rep_zero H2⟩
end Go.Proofs.Ytbdappbmlnpogaa
