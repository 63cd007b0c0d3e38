/- beta.occurs, Occurs, contract, Contract. -/
import Derived.Test.YtbdappbmlnpogaaVars
import Derived.Test.YtbdappbmlnpogaaTb
import Derived.Deep.RegionHeld3
namespace Go.Proofs.Ytbdappbmlnpogaa
open Go Go.Proofs Go.RowKit
set_option maxRecDepth 100000
set_option maxHeartbeats 2000000 in
theorem beta_occurs (t : Tm) : ∀ (i : Int) (cs : List Value) (H : GH) (w : World), Rep H t cs → Agree H w → t.size ≤ LB → 0 ≤ i → i + t.size ≤ 4611686018427387904 →
    Calls Try.prog 103 #[.agg cs.toArray, .int .i64 i] w fun e w' => e = .returned (.int .i64 (t.occurs i)) ∧ Below w.heap.size w w' := by
  induction t using Tm.ind with
  | h k s n l ih =>
    intro i cs H w hR hA hsz hi0 hi1
    rw [Tm.size_mk] at hsz hi1
    unfold LB at hsz
    have hlen := Tm.length_le_sizeL l
    obtain ⟨a, cap, rfl, -, -, -, hl⟩ := hR.open_
    simp only [Tm.k_mk, Tm.s_mk, Tm.n_mk, Tm.l_mk] at *
    have hoc := Lib.hid (Tm.occurs_mk k s n l i)
    by_cases h3 : k = 3 ∧ n = i
    · obtain ⟨rfl, rfl⟩ := h3
      have b1 : ((3 : Int) == 3) = true := rfl
      have b2 : (n == n) = true := by simp
      go_enter Try.func103, Try.ntmps103
      go_wp2_with fail
      go_ret
      exact ⟨by rw [hoc.out, if_pos (by simp)]; rfl, below_alloc _ _⟩
    · have hoc2 := hoc.out
      rw [if_neg h3] at hoc2
      generalize hI : (if k = 5 then i + 1 else i) = I at hoc2
      have hIb : 0 ≤ I ∧ I ≤ i + 1 := by split at hI <;> omega
      obtain ⟨hI0, hI1⟩ := hIb
      have HOC := Lib.hid hoc2
      have hi2 : i ≤ 4611686018427387904 := by omega
      have hcase : ((k == 3) = true ∧ (k == 5) = false ∧ (n == i) = false ∧ i = I) ∨ ((k == 3) = false ∧ (k == 5) = true ∧ i + 1 = I) ∨ ((k == 3) = false ∧ (k == 5) = false ∧ i = I) := by
        by_cases k3 : k = 3
        · subst k3
          have hn : (n == i) = false := by rw [beq_eq_false_iff_ne]; exact fun h => h3 ⟨rfl, h⟩
          rw [if_neg (by decide)] at hI
          exact .inl ⟨rfl, rfl, hn, hI⟩
        · have b3 : (k == 3) = false := by rw [beq_eq_false_iff_ne]; exact k3
          by_cases k5 : k = 5
          · subst k5
            rw [if_pos rfl] at hI
            exact .inr (.inl ⟨rfl, rfl, hI⟩)
          · rw [if_neg k5] at hI
            exact .inr (.inr ⟨b3, by rw [beq_eq_false_iff_ne]; exact k5, hI⟩)
      clear hI hoc2 h3 hoc
      have IH := Lib.hid ih
      clear ih hR
      have hli := Lib.hid (fun j => Tm.occursL_take l I j)
      rcases hcase with ⟨b1, b2, b3, hII⟩ | ⟨b1, b2, hII⟩ | ⟨b1, b2, hII⟩
      all_goals
        have HII := Lib.hid hII
        clear hII
        go_enter Try.func103, Try.ntmps103
        go_wp2_with fail
        have hbW := below_alloc w (.cells #[.int .i64 k, .string s, .int .i64 n, .slice a l.length cap] 30)
        rw [HII.out]
        go_loopw [5, 23] (fun m x wr => ∃ j : Nat, j ≤ l.length ∧ x = .int .i64 j ∧ m = .int .i64 (Tm.occursL (l.take j) I) ∧ Below w.heap.size w wr) (fun _ x _ => l.length - (intOf x).toNat)
        case atStart => exact ⟨0, Nat.zero_le _, rfl, by rw [List.take_zero, Tm.occursL], hbW⟩
        case round =>
          obtain ⟨j, hj, rfl, rfl, hb⟩ := hrel
          obtain ⟨hc0, hc1⟩ := hli.out j
          by_cases hlt : j < l.length
          · have hx : l[j]? = some l[j] := List.getElem?_eq_getElem hlt
            obtain ⟨b, o, cs', rfl, hcl, hR', hcell⟩ := hl.get hx
            have hA' := hA.below hb
            have hszj := Tm.size_le_sizeL (List.getElem_mem hlt)
            have hcall := Lib.hid (fun W hW => IH.out l[j] (List.getElem_mem hlt) I cs' H W hR' (hA'.below hW) (by unfold LB; omega) hI0 (by omega))
            have hstep : Tm.occursL (l.take (j + 1)) I = Tm.occursL (l.take j) I + l[j].occurs I := by
              rw [List.take_add_one, hx, Tm.occursL_append]
              show _ + Tm.occursL [l[j]] I = _
              rw [Tm.occursL, Tm.occursL]; omega
            have hc2 := Tm.occurs_le l[j] I
            obtain ⟨a1, cap1, rfl, -⟩ := hR'.open_
            have c0 := hA'.cell (hcell 0 _ rfl)
            have c1 := hA'.cell (hcell 1 _ rfl)
            have c2 := hA'.cell (hcell 2 _ rfl)
            have c3 := hA'.cell (hcell 3 _ rfl)
            simp only [Nat.add_zero, ← Nat.add_assoc] at c0 c1 c2 c3
            have HS := Lib.hid hstep
            obtain ⟨hc2a, hc2b⟩ := hc2
            have hc1c : Tm.occursL (l.take j) I ≤ 2513169434916 := by omega
            have hc2c : l[j].occurs I ≤ 2513169434916 := by omega
            have hbl := World.block_lt_of_cell? wr _ c0
            clear hx hcell hstep hcl hc2b hc1
            go_wp2_with fail
            refine (hcall.out _ (below_alloc _ _)).mono ?_
            rintro e w2 ⟨rfl, hb2⟩
            go_wp2_with fail
            go_roundw
            case rel => exact ⟨j + 1, by omega, by go_num, by rw [HS.out], hb.trans (((below_alloc _ _).trans (hb2.mono (below_alloc _ _).size)).mono hb.size)⟩
            case measure => simp [intOf]; omega
          · have hjl : j = l.length := by omega
            have HJ := Lib.hid hjl
            clear hjl
            go_wp2_with fail
            go_ret
            refine ⟨?_, hb⟩
            rw [HOC.out]
            have : Tm.occursL (l.take j) I = Tm.occursL l I := by rw [List.take_of_length_le (by have := HJ.out; omega)]
            rw [← this]
            rfl

theorem beta_Occurs (t : Tm) (i : Int) (cs : List Value) (H : GH) (w : World) (hR : Rep H t cs) (hA : Agree H w) (hsz : t.size ≤ LB) (hi0 : 0 ≤ i) (hi1 : i ≤ 4611683505257952988) :
    Calls Try.prog 97 #[.agg cs.toArray, .int .i64 i] w fun e w' => e = .returned (.int .i64 (t.occursV i)) ∧ Below w.heap.size w w' := by
  have h1 := Lib.hid (fun W hW => term_Valid t cs H W hR hW)
  have h2 := Lib.hid (fun W hW => beta_occurs t i cs H W hR hW hsz hi0 (by unfold LB at hsz; omega))
  obtain ⟨a, cap, rfl, -, -, -, hl⟩ := hR.open_
  clear hsz
  cases hv : t.valid with
  | false =>
    have ho := Lib.hid (show t.occursV i = 0 by unfold Tm.occursV; rw [hv]; rfl)
    have HV := Lib.hid hv
    clear hv
    go_enter Try.func97, Try.ntmps97
    go_wp2_with fail
    refine (h1.out _ (hA.alloc _)).mono ?_
    rw [HV.out]
    rintro e w1 ⟨rfl, hb1⟩
    go_wp2_with fail
    go_ret
    exact ⟨by rw [ho.out]; rfl, (below_alloc _ _).trans (hb1.mono (below_alloc _ _).size)⟩
  | true =>
    have ho := Lib.hid (show t.occursV i = t.occurs i by unfold Tm.occursV; rw [hv]; rfl)
    have HV := Lib.hid hv
    clear hv
    go_enter Try.func97, Try.ntmps97
    go_wp2_with fail
    refine (h1.out _ (hA.alloc _)).mono ?_
    rw [HV.out]
    rintro e w1 ⟨rfl, hb1⟩
    have hb1' := (below_alloc w (.cells #[.int .i64 t.k, .string t.s, .int .i64 t.n, .slice a t.l.length cap] 30)).trans (hb1.mono (below_alloc _ _).size)
    have hc1 := (bcell hb1).1
    go_wp2_with fail
    refine (h2.out _ (hA.below hb1')).mono ?_
    rintro e w2 ⟨rfl, hb2⟩
    go_wp2_with fail
    go_ret
    exact ⟨by rw [ho.out]; rfl, hb1'.trans (hb2.mono hb1'.size)⟩
theorem eta_Free (t : Tm) (i : Int) (cs : List Value) (H : GH) (w : World) (hR : Rep H t cs) (hA : Agree H w) (hsz : t.size ≤ LB) (hi0 : 0 ≤ i) (hi1 : i ≤ 4611683505257952988) :
    Calls Try.prog 89 #[.agg cs.toArray, .int .i64 i] w fun e w' => e = .returned (.bool (t.free i)) ∧ Below w.heap.size w w' := by
  have h1 := Lib.hid (fun W hW => beta_Occurs t i cs H W hR hW hsz hi0 hi1)
  obtain ⟨a, cap, rfl, -, -, -, hl⟩ := hR.open_
  clear hsz
  have ho := Lib.hid (show t.free i = decide (0 < t.occursV i) from rfl)
  go_enter Try.func89, Try.ntmps89
  go_wp2_with fail
  refine (h1.out _ (hA.alloc _)).mono ?_
  rintro e w1 ⟨rfl, hb1⟩
  go_wp2_with fail
  go_ret
  exact ⟨by rw [ho.out]; rfl, (below_alloc _ _).trans (hb1.mono (below_alloc _ _).size)⟩
/-- Terms whose sizes can be multiplied. -/
def SB : Nat := 1073741824
theorem cells4 {w w' : World} {b : Nat} (hb : Below w.heap.size w w') (h : b < w.heap.size) (i : Nat) {v : Value} (hc : w.cell? ⟨b, i, none⟩ = some v) : w'.cell? ⟨b, i, none⟩ = some v := ((bcell hb).1 b i h).trans hc
set_option maxHeartbeats 4000000 in
theorem beta_contract (t u : Tm) (cs us : List Value) (H : GH) (w : World) (hR : Rep H t cs) (hU : Rep H u us) (hA : Agree H w) (hsz : t.size ≤ SB) (hszu : u.size ≤ SB) (hs : t.shp = true) (hL : (t.contract u).2 = 0 → (t.subst 0 u).size ≤ LB ∧ ∀ p ∈ t.leaves 0, SubstL 0 u p.1 p.2) :
    Calls Try.prog 96 #[.agg cs.toArray, .agg us.toArray] w fun e w' => ∃ H' cs', e = .returned (.tuple #[.agg cs'.toArray, .int .i64 (t.contract u).2]) ∧ Pure H w H' w' ∧ Rep H' (t.contract u).1 cs' := by
  have h1 := Lib.hid (fun W hW => term_Size t cs H W hR hW (by unfold LB SB at *; omega))
  have h2 := Lib.hid (fun W hW => term_Size u us H W hU hW (by unfold LB SB at *; omega))
  have h3 := Lib.hid (fun W hW => beta_occurs t 0 cs H W hR hW (by unfold LB SB at *; omega) (by omega) (by unfold SB at *; omega))
  have g1 := gsize_le t
  have g2 := gsize_le u
  have g3 := Tm.occurs_le t 0
  have hR0 := Lib.hid hR
  have hU0 := Lib.hid hU
  obtain ⟨a, cap, rfl, -, -, -, hl⟩ := hR.open_
  obtain ⟨b, bap, rfl, -, -, -, hlu⟩ := hU.open_
  unfold SB at hsz hszu
  have hC := Lib.hid (show t.contract u = if 4096 < t.gsize + t.occurs 0 * u.gsize then (Tm.zero, 80) else (t.subst 0 u, 0) from rfl)
  have HL := Lib.hid hL
  generalize t.gsize = x1 at *
  generalize u.gsize = x2 at *
  generalize t.occurs 0 = x3 at *
  have hx3 : x3 ≤ 1073741824 := by omega
  have hx2 : x2 ≤ 1073741824 := by omega
  have hx1 : x1 ≤ 1073741824 := by omega
  have HSZ := Lib.hid hsz
  obtain ⟨g1a, -⟩ := g1
  obtain ⟨g2a, -⟩ := g2
  obtain ⟨g3a, -⟩ := g3
  have hm0 : 0 ≤ x3 * x2 := Int.mul_nonneg g3a g2a
  have hm1 : x3 * x2 ≤ 1152921504606846976 := by
    have := Int.mul_le_mul hx3 hx2 g2a (by omega)
    omega
  have hw1 := IntWalk.i64_in (x3 * x2) (by omega)
  have hw2 := IntWalk.i64_in (x1 + x3 * x2) (by omega)
  clear hsz hszu hL hR hU
  go_enter Try.func96, Try.ntmps96
  go_wp2_with fail
  go_region_held3 (fun w' => w'.cell? ⟨w.heap.size, 0, none⟩ = some (.int .i64 t.k) ∧ w'.cell? ⟨w.heap.size, 1, none⟩ = some (.string t.s) ∧ w'.cell? ⟨w.heap.size, 2, none⟩ = some (.int .i64 t.n) ∧ w'.cell? ⟨w.heap.size, 3, none⟩ = some (.slice a t.l.length cap) ∧ w'.cell? ⟨w.heap.size + 1, 0, none⟩ = some (.int .i64 u.k) ∧ w'.cell? ⟨w.heap.size + 1, 1, none⟩ = some (.string u.s) ∧ w'.cell? ⟨w.heap.size + 1, 2, none⟩ = some (.int .i64 u.n) ∧ w'.cell? ⟨w.heap.size + 1, 3, none⟩ = some (.slice b u.l.length bap)) (refine ⟨?_, ?_, ?_, ?_, ?_, ?_, ?_, ?_⟩ <;> first | go_simp; done | exact cells4 hb13 (by simp <;> omega) _ (by go_simp) | exact cells4 hb12 (by simp <;> omega) _ (by go_simp) | exact cells4 hb1 (by simp <;> omega) _ (by go_simp)) (first | (go_at_call 102; ((with_reducible refine (h1.out _ (((hA.alloc _).alloc _).alloc _).drew).mono ?_); rintro e w1 ⟨rfl, hb1⟩)) | (go_at_call 103; ((with_reducible refine (h3.out _ (((((hA.alloc _).alloc _).alloc _).drew).below hb1)).mono ?_); rintro e w2 ⟨rfl, hb2⟩; have hb12 := hb1.trans (hb2.mono hb1.size))) | (go_at_call 102; ((with_reducible refine (h2.out _ ((((((hA.alloc _).alloc _).alloc _).drew).below hb1).below hb2)).mono ?_); rintro e w3 ⟨rfl, hb3⟩; have hb13 := hb12.trans (hb3.mono hb12.size))))
  have E0 := ((((Ext.refl (O := fun _ => False) hA).alloc (.cells #[.int .i64 t.k, .string t.s, .int .i64 t.n, .slice a t.l.length cap] 30)).alloc (.cells #[.int .i64 u.k, .string u.s, .int .i64 u.n, .slice b u.l.length bap] 30)).alloc (.cells #[.int .i64 0, .string ⟨#[]⟩, .int .i64 0, .slice none 0 0] 30)).drew.then_below hb13
  have hn2 : H (w.heap.size + 1 + 1) = none := hA.free (by omega)
  have r0 := cells4 hb13 (b := w.heap.size + 1 + 1) (by simp) 0 (v := .int .i64 0) (by go_simp)
  have r1 := cells4 hb13 (b := w.heap.size + 1 + 1) (by simp) 1 (v := .string ⟨#[]⟩) (by go_simp)
  have r2 := cells4 hb13 (b := w.heap.size + 1 + 1) (by simp) 2 (v := .int .i64 0) (by go_simp)
  have r3 := cells4 hb13 (b := w.heap.size + 1 + 1) (by simp) 3 (v := .slice none 0 0) (by go_simp)
  have fz : ∀ i, w3.frozen? ⟨w.heap.size + 1 + 1, i, none⟩ = false := fun i => ((bcell hb13).2 _ _ (by simp)).trans (by go_simp)
  have y0 := fz 0
  have y1 := fz 1
  have y2 := fz 2
  have y3 := fz 3
  have hzz : w.heap.size + 1 + 1 < w3.heap.size := by have := hb13.size; simp at this; omega
  clear fz hb1 hb2 hb3 hb12
  by_cases hgt : 4096 < x1 + x3 * x2
  · have hC2 := hC.out
    rw [if_pos hgt] at hC2
    have HC := Lib.hid hC2
    clear hC2
    go_wp2_with fail
    rw [HC.out]
    have hE := E0.store4 hn2 (by omega) (.int .i64 0) (.string ⟨#[]⟩) (.int .i64 0) (.slice none 0 0)
    refine bodyPost_ret (v := .tuple #[.agg #[.int .i64 0, .string ⟨#[]⟩, .int .i64 0, .slice none 0 0], .int .i64 80]) (by simp [results, Try.results96, go_sem, r0, r1, r2, r3]) rfl ⟨H, _, rfl, hE, ?_⟩
    exact Rep.shut (by unfold I64; omega) (by unfold I64; omega) (by simp [maxLen]) (Sl.nil _ _ _)
  · have hC2 := hC.out
    rw [if_neg hgt] at hC2
    have HC := Lib.hid hC2
    clear hC2
    obtain ⟨s1, s2⟩ := HL.out (by rw [HC.out])
    have p0 := cells4 hb13 (b := w.heap.size) (by simp <;> omega) 0 (v := .int .i64 t.k) (by go_simp)
    have p1 := cells4 hb13 (b := w.heap.size) (by simp <;> omega) 1 (v := .string t.s) (by go_simp)
    have p2 := cells4 hb13 (b := w.heap.size) (by simp <;> omega) 2 (v := .int .i64 t.n) (by go_simp)
    have p3 := cells4 hb13 (b := w.heap.size) (by simp <;> omega) 3 (v := .slice a t.l.length cap) (by go_simp)
    have q0 := cells4 hb13 (b := w.heap.size + 1) (by simp) 0 (v := .int .i64 u.k) (by go_simp)
    have q1 := cells4 hb13 (b := w.heap.size + 1) (by simp) 1 (v := .string u.s) (by go_simp)
    have q2 := cells4 hb13 (b := w.heap.size + 1) (by simp) 2 (v := .int .i64 u.n) (by go_simp)
    have q3 := cells4 hb13 (b := w.heap.size + 1) (by simp) 3 (v := .slice b u.l.length bap) (by go_simp)
    have hsub := Lib.hid (term_Subst t 0 u _ _ H w3 hs (by have := HSZ.out; unfold LB; omega) s1 s2 E0.agree hR0.out hU0.out)
    clear s1 s2 hs
    go_wp2_with fail
    refine hsub.out.mono ?_
    rintro e w4 ⟨H4, cs4, rfl, X, R4⟩
    have E1 := E0.then X
    have hn4 : H4 (w.heap.size + 1 + 1) = none := (X.old _ hzz).trans hn2
    have hbX := X.below
    have t0 := cells4 hbX hzz 0 r0
    have t1 := cells4 hbX hzz 1 r1
    have t2 := cells4 hbX hzz 2 r2
    have t3 := cells4 hbX hzz 3 r3
    have z0 := ((bcell hbX).2 _ 0 hzz).trans y0
    have z1 := ((bcell hbX).2 _ 1 hzz).trans y1
    have z2 := ((bcell hbX).2 _ 2 hzz).trans y2
    have z3 := ((bcell hbX).2 _ 3 hzz).trans y3
    generalize hY : t.subst 0 u = Y at R4
    have HY := Lib.hid hY
    clear hY hsub X hbX
    obtain ⟨ra, rc, rfl, -, -, -, -⟩ := R4.open_
    go_wp2_with fail
    rw [HC.out, HY.out]
    have hE := E1.store4 hn4 (by omega) (.int .i64 Y.k) (.string Y.s) (.int .i64 Y.n) (.slice ra Y.l.length rc)
    refine bodyPost_ret (v := .tuple #[.agg #[.int .i64 Y.k, .string Y.s, .int .i64 Y.n, .slice ra Y.l.length rc], .int .i64 0]) (by simp [results, Try.results96, go_sem, t0, t1, t2, t3]) rfl ⟨H4, _, rfl, hE, R4⟩
end Go.Proofs.Ytbdappbmlnpogaa
