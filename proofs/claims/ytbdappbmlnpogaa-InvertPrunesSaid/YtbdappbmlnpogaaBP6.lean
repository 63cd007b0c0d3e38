/- beta.occurs, Occurs, contract, Contract. What stays true of terms while steps are done: valid, of bounded size and numbers. beta.Contract. -/
import Derived.Test.YtbdappbmlnpogaaBP5
import Derived.Deep.RegionHeld3
namespace Go.Proofs.Ytbdappbmlnpogaa
open Go Go.Proofs Go.RowKit
set_option maxRecDepth 100000
set_option maxHeartbeats 2000000 in
theorem beta_occurs (t : Tm) : ∀ (i : Int) (cs : List Value) (H : GH) (w : World), Rep H t cs → Agree H w → t.size ≤ LB → 0 ≤ i → i + t.size ≤ 4611686018427387904 →
    Calls Try.prog 103 #[.agg cs.toArray, .int .i64 i] w fun e w' => e = .returned (.int .i64 (t.occurs i)) ∧ Below w.heap.size w w' := by
  induction t using Tm.ind with
  | h k s n l ih =>
    intro i cs H w hR hA hsz hi0 hi1
    rw [Tm.size_mk] at hsz hi1
    unfold LB at hsz
    have hlen := Tm.length_le_sizeL l
    obtain ⟨a, cap, rfl, -, -, -, hl⟩ := hR.open_
    simp only [Tm.k_mk, Tm.s_mk, Tm.n_mk, Tm.l_mk] at *
    have hoc := Lib.hid (Tm.occurs_mk k s n l i)
    by_cases h3 : k = 3 ∧ n = i
    · obtain ⟨rfl, rfl⟩ := h3
      have b1 : ((3 : Int) == 3) = true := rfl
      have b2 : (n == n) = true := by simp
      go_enter Try.func103, Try.ntmps103
      go_wp2_with fail
      go_ret
      exact ⟨by rw [hoc.out, if_pos (by simp)]; rfl, below_alloc _ _⟩
    · have hoc2 := hoc.out
      rw [if_neg h3] at hoc2
      generalize hI : (if k = 5 then i + 1 else i) = I at hoc2
      have hIb : 0 ≤ I ∧ I ≤ i + 1 := by split at hI <;> omega
      obtain ⟨hI0, hI1⟩ := hIb
      have HOC := Lib.hid hoc2
      have hi2 : i ≤ 4611686018427387904 := by omega
      have hcase : ((k == 3) = true ∧ (k == 5) = false ∧ (n == i) = false ∧ i = I) ∨ ((k == 3) = false ∧ (k == 5) = true ∧ i + 1 = I) ∨ ((k == 3) = false ∧ (k == 5) = false ∧ i = I) := by
        by_cases k3 : k = 3
        · subst k3
          have hn : (n == i) = false := by rw [beq_eq_false_iff_ne]; exact fun h => h3 ⟨rfl, h⟩
          rw [if_neg (by decide)] at hI
          exact .inl ⟨rfl, rfl, hn, hI⟩
        · have b3 : (k == 3) = false := by rw [beq_eq_false_iff_ne]; exact k3
          by_cases k5 : k = 5
          · subst k5
            rw [if_pos rfl] at hI
            exact .inr (.inl ⟨rfl, rfl, hI⟩)
          · rw [if_neg k5] at hI
            exact .inr (.inr ⟨b3, by rw [beq_eq_false_iff_ne]; exact k5, hI⟩)
      clear hI hoc2 h3 hoc
      have IH := Lib.hid ih
      clear ih hR
      have hli := Lib.hid (fun j => Tm.occursL_take l I j)
      rcases hcase with ⟨b1, b2, b3, hII⟩ | ⟨b1, b2, hII⟩ | ⟨b1, b2, hII⟩
      all_goals
        have HII := Lib.hid hII
        clear hII
        go_enter Try.func103, Try.ntmps103
        go_wp2_with fail
        have hbW := below_alloc w (.cells #[.int .i64 k, .string s, .int .i64 n, .slice a l.length cap] 30)
        rw [HII.out]
        go_loopw [5, 23] (fun m x wr => ∃ j : Nat, j ≤ l.length ∧ x = .int .i64 j ∧ m = .int .i64 (Tm.occursL (l.take j) I) ∧ Below w.heap.size w wr) (fun _ x _ => l.length - (intOf x).toNat)
        case atStart => exact ⟨0, Nat.zero_le _, rfl, by rw [List.take_zero, Tm.occursL], hbW⟩
        case round =>
          obtain ⟨j, hj, rfl, rfl, hb⟩ := hrel
          obtain ⟨hc0, hc1⟩ := hli.out j
          by_cases hlt : j < l.length
          · have hx : l[j]? = some l[j] := List.getElem?_eq_getElem hlt
            obtain ⟨b, o, cs', rfl, hcl, hR', hcell⟩ := hl.get hx
            have hA' := hA.below hb
            have hszj := Tm.size_le_sizeL (List.getElem_mem hlt)
            have hcall := Lib.hid (fun W hW => IH.out l[j] (List.getElem_mem hlt) I cs' H W hR' (hA'.below hW) (by unfold LB; omega) hI0 (by omega))
            have hstep : Tm.occursL (l.take (j + 1)) I = Tm.occursL (l.take j) I + l[j].occurs I := by
              rw [List.take_add_one, hx, Tm.occursL_append]
              show _ + Tm.occursL [l[j]] I = _
              rw [Tm.occursL, Tm.occursL]; omega
            have hc2 := Tm.occurs_le l[j] I
            obtain ⟨a1, cap1, rfl, -⟩ := hR'.open_
            have c0 := hA'.cell (hcell 0 _ rfl)
            have c1 := hA'.cell (hcell 1 _ rfl)
            have c2 := hA'.cell (hcell 2 _ rfl)
            have c3 := hA'.cell (hcell 3 _ rfl)
            simp only [Nat.add_zero, ← Nat.add_assoc] at c0 c1 c2 c3
            have HS := Lib.hid hstep
            obtain ⟨hc2a, hc2b⟩ := hc2
            have hc1c : Tm.occursL (l.take j) I ≤ 2513169434916 := by omega
            have hc2c : l[j].occurs I ≤ 2513169434916 := by omega
            have hbl := World.block_lt_of_cell? wr _ c0
            clear hx hcell hstep hcl hc2b hc1
            go_wp2_with fail
            refine (hcall.out _ (below_alloc _ _)).mono ?_
            rintro e w2 ⟨rfl, hb2⟩
            go_wp2_with fail
            go_roundw
            case rel => exact ⟨j + 1, by omega, by go_num, by rw [HS.out], hb.trans (((below_alloc _ _).trans (hb2.mono (below_alloc _ _).size)).mono hb.size)⟩
            case measure => simp [intOf]; omega
          · have hjl : j = l.length := by omega
            have HJ := Lib.hid hjl
            clear hjl
            go_wp2_with fail
            go_ret
            refine ⟨?_, hb⟩
            rw [HOC.out]
            have : Tm.occursL (l.take j) I = Tm.occursL l I := by rw [List.take_of_length_le (by have := HJ.out; omega)]
            rw [← this]
            rfl

theorem beta_Occurs (t : Tm) (i : Int) (cs : List Value) (H : GH) (w : World) (hR : Rep H t cs) (hA : Agree H w) (hsz : t.size ≤ LB) (hi0 : 0 ≤ i) (hi1 : i ≤ 4611683505257952988) :
    Calls Try.prog 97 #[.agg cs.toArray, .int .i64 i] w fun e w' => e = .returned (.int .i64 (t.occursV i)) ∧ Below w.heap.size w w' := by
  have h1 := Lib.hid (fun W hW => term_Valid t cs H W hR hW)
  have h2 := Lib.hid (fun W hW => beta_occurs t i cs H W hR hW hsz hi0 (by unfold LB at hsz; omega))
  obtain ⟨a, cap, rfl, -, -, -, hl⟩ := hR.open_
  clear hsz
  cases hv : t.valid with
  | false =>
    have ho := Lib.hid (show t.occursV i = 0 by unfold Tm.occursV; rw [hv]; rfl)
    have HV := Lib.hid hv
    clear hv
    go_enter Try.func97, Try.ntmps97
    go_wp2_with fail
    refine (h1.out _ (hA.alloc _)).mono ?_
    rw [HV.out]
    rintro e w1 ⟨rfl, hb1⟩
    go_wp2_with fail
    go_ret
    exact ⟨by rw [ho.out]; rfl, (below_alloc _ _).trans (hb1.mono (below_alloc _ _).size)⟩
  | true =>
    have ho := Lib.hid (show t.occursV i = t.occurs i by unfold Tm.occursV; rw [hv]; rfl)
    have HV := Lib.hid hv
    clear hv
    go_enter Try.func97, Try.ntmps97
    go_wp2_with fail
    refine (h1.out _ (hA.alloc _)).mono ?_
    rw [HV.out]
    rintro e w1 ⟨rfl, hb1⟩
    have hb1' := (below_alloc w (.cells #[.int .i64 t.k, .string t.s, .int .i64 t.n, .slice a t.l.length cap] 30)).trans (hb1.mono (below_alloc _ _).size)
    have hc1 := (bcell hb1).1
    go_wp2_with fail
    refine (h2.out _ (hA.below hb1')).mono ?_
    rintro e w2 ⟨rfl, hb2⟩
    go_wp2_with fail
    go_ret
    exact ⟨by rw [ho.out]; rfl, hb1'.trans (hb2.mono hb1'.size)⟩
theorem eta_Free (t : Tm) (i : Int) (cs : List Value) (H : GH) (w : World) (hR : Rep H t cs) (hA : Agree H w) (hsz : t.size ≤ LB) (hi0 : 0 ≤ i) (hi1 : i ≤ 4611683505257952988) :
    Calls Try.prog 89 #[.agg cs.toArray, .int .i64 i] w fun e w' => e = .returned (.bool (t.free i)) ∧ Below w.heap.size w w' := by
  have h1 := Lib.hid (fun W hW => beta_Occurs t i cs H W hR hW hsz hi0 hi1)
  obtain ⟨a, cap, rfl, -, -, -, hl⟩ := hR.open_
  clear hsz
  have ho := Lib.hid (show t.free i = decide (0 < t.occursV i) from rfl)
  go_enter Try.func89, Try.ntmps89
  go_wp2_with fail
  refine (h1.out _ (hA.alloc _)).mono ?_
  rintro e w1 ⟨rfl, hb1⟩
  go_wp2_with fail
  go_ret
  exact ⟨by rw [ho.out]; rfl, (below_alloc _ _).trans (hb1.mono (below_alloc _ _).size)⟩
/-- Terms whose sizes can be multiplied. -/
def SB : Nat := 1073741824
theorem cells4 {w w' : World} {b : Nat} (hb : Below w.heap.size w w') (h : b < w.heap.size) (i : Nat) {v : Value} (hc : w.cell? ⟨b, i, none⟩ = some v) : w'.cell? ⟨b, i, none⟩ = some v := ((bcell hb).1 b i h).trans hc
set_option maxHeartbeats 4000000 in
theorem beta_contract (t u : Tm) (cs us : List Value) (H : GH) (w : World) (hR : Rep H t cs) (hU : Rep H u us) (hA : Agree H w) (hsz : t.size ≤ SB) (hszu : u.size ≤ SB) (hs : t.shp = true) (hL : (t.contract u).2 = 0 → (t.subst 0 u).size ≤ LB ∧ ∀ p ∈ t.leaves 0, SubstL 0 u p.1 p.2) :
    Calls Try.prog 96 #[.agg cs.toArray, .agg us.toArray] w fun e w' => ∃ H' cs', e = .returned (.tuple #[.agg cs'.toArray, .int .i64 (t.contract u).2]) ∧ Pure H w H' w' ∧ Rep H' (t.contract u).1 cs' := by
  have h1 := Lib.hid (fun W hW => term_Size t cs H W hR hW (by unfold LB SB at *; omega))
  have h2 := Lib.hid (fun W hW => term_Size u us H W hU hW (by unfold LB SB at *; omega))
  have h3 := Lib.hid (fun W hW => beta_occurs t 0 cs H W hR hW (by unfold LB SB at *; omega) (by omega) (by unfold SB at *; omega))
  have g1 := gsize_le t
  have g2 := gsize_le u
  have g3 := Tm.occurs_le t 0
  have hR0 := Lib.hid hR
  have hU0 := Lib.hid hU
  obtain ⟨a, cap, rfl, -, -, -, hl⟩ := hR.open_
  obtain ⟨b, bap, rfl, -, -, -, hlu⟩ := hU.open_
  unfold SB at hsz hszu
  have hC := Lib.hid (show t.contract u = if 4096 < t.gsize + t.occurs 0 * u.gsize then (Tm.zero, 80) else (t.subst 0 u, 0) from rfl)
  have HL := Lib.hid hL
  generalize t.gsize = x1 at *
  generalize u.gsize = x2 at *
  generalize t.occurs 0 = x3 at *
  have hx3 : x3 ≤ 1073741824 := by omega
  have hx2 : x2 ≤ 1073741824 := by omega
  have hx1 : x1 ≤ 1073741824 := by omega
  have HSZ := Lib.hid hsz
  obtain ⟨g1a, -⟩ := g1
  obtain ⟨g2a, -⟩ := g2
  obtain ⟨g3a, -⟩ := g3
  have hm0 : 0 ≤ x3 * x2 := Int.mul_nonneg g3a g2a
  have hm1 : x3 * x2 ≤ 1152921504606846976 := by
    have := Int.mul_le_mul hx3 hx2 g2a (by omega)
    omega
  have hw1 := IntWalk.i64_in (x3 * x2) (by omega)
  have hw2 := IntWalk.i64_in (x1 + x3 * x2) (by omega)
  clear hsz hszu hL hR hU
  go_enter Try.func96, Try.ntmps96
  go_wp2_with fail
  go_region_held3 (fun w' => w'.cell? ⟨w.heap.size, 0, none⟩ = some (.int .i64 t.k) ∧ w'.cell? ⟨w.heap.size, 1, none⟩ = some (.string t.s) ∧ w'.cell? ⟨w.heap.size, 2, none⟩ = some (.int .i64 t.n) ∧ w'.cell? ⟨w.heap.size, 3, none⟩ = some (.slice a t.l.length cap) ∧ w'.cell? ⟨w.heap.size + 1, 0, none⟩ = some (.int .i64 u.k) ∧ w'.cell? ⟨w.heap.size + 1, 1, none⟩ = some (.string u.s) ∧ w'.cell? ⟨w.heap.size + 1, 2, none⟩ = some (.int .i64 u.n) ∧ w'.cell? ⟨w.heap.size + 1, 3, none⟩ = some (.slice b u.l.length bap)) (refine ⟨?_, ?_, ?_, ?_, ?_, ?_, ?_, ?_⟩ <;> first | go_simp; done | exact cells4 hb13 (by simp <;> omega) _ (by go_simp) | exact cells4 hb12 (by simp <;> omega) _ (by go_simp) | exact cells4 hb1 (by simp <;> omega) _ (by go_simp)) (first | (go_at_call 102; ((with_reducible refine (h1.out _ (((hA.alloc _).alloc _).alloc _).drew).mono ?_); rintro e w1 ⟨rfl, hb1⟩)) | (go_at_call 103; ((with_reducible refine (h3.out _ (((((hA.alloc _).alloc _).alloc _).drew).below hb1)).mono ?_); rintro e w2 ⟨rfl, hb2⟩; have hb12 := hb1.trans (hb2.mono hb1.size))) | (go_at_call 102; ((with_reducible refine (h2.out _ ((((((hA.alloc _).alloc _).alloc _).drew).below hb1).below hb2)).mono ?_); rintro e w3 ⟨rfl, hb3⟩; have hb13 := hb12.trans (hb3.mono hb12.size))))
  have E0 := ((((Ext.refl (O := fun _ => False) hA).alloc (.cells #[.int .i64 t.k, .string t.s, .int .i64 t.n, .slice a t.l.length cap] 30)).alloc (.cells #[.int .i64 u.k, .string u.s, .int .i64 u.n, .slice b u.l.length bap] 30)).alloc (.cells #[.int .i64 0, .string ⟨#[]⟩, .int .i64 0, .slice none 0 0] 30)).drew.then_below hb13
  have hn2 : H (w.heap.size + 1 + 1) = none := hA.free (by omega)
  have r0 := cells4 hb13 (b := w.heap.size + 1 + 1) (by simp) 0 (v := .int .i64 0) (by go_simp)
  have r1 := cells4 hb13 (b := w.heap.size + 1 + 1) (by simp) 1 (v := .string ⟨#[]⟩) (by go_simp)
  have r2 := cells4 hb13 (b := w.heap.size + 1 + 1) (by simp) 2 (v := .int .i64 0) (by go_simp)
  have r3 := cells4 hb13 (b := w.heap.size + 1 + 1) (by simp) 3 (v := .slice none 0 0) (by go_simp)
  have fz : ∀ i, w3.frozen? ⟨w.heap.size + 1 + 1, i, none⟩ = false := fun i => ((bcell hb13).2 _ _ (by simp)).trans (by go_simp)
  have y0 := fz 0
  have y1 := fz 1
  have y2 := fz 2
  have y3 := fz 3
  have hzz : w.heap.size + 1 + 1 < w3.heap.size := by have := hb13.size; simp at this; omega
  clear fz hb1 hb2 hb3 hb12
  by_cases hgt : 4096 < x1 + x3 * x2
  · have hC2 := hC.out
    rw [if_pos hgt] at hC2
    have HC := Lib.hid hC2
    clear hC2
    go_wp2_with fail
    rw [HC.out]
    have hE := E0.store4 hn2 (by omega) (.int .i64 0) (.string ⟨#[]⟩) (.int .i64 0) (.slice none 0 0)
    refine bodyPost_ret (v := .tuple #[.agg #[.int .i64 0, .string ⟨#[]⟩, .int .i64 0, .slice none 0 0], .int .i64 80]) (by simp [results, Try.results96, go_sem, r0, r1, r2, r3]) rfl ⟨H, _, rfl, hE, ?_⟩
    exact Rep.shut (by unfold I64; omega) (by unfold I64; omega) (by simp [maxLen]) (Sl.nil _ _ _)
  · have hC2 := hC.out
    rw [if_neg hgt] at hC2
    have HC := Lib.hid hC2
    clear hC2
    obtain ⟨s1, s2⟩ := HL.out (by rw [HC.out])
    have p0 := cells4 hb13 (b := w.heap.size) (by simp <;> omega) 0 (v := .int .i64 t.k) (by go_simp)
    have p1 := cells4 hb13 (b := w.heap.size) (by simp <;> omega) 1 (v := .string t.s) (by go_simp)
    have p2 := cells4 hb13 (b := w.heap.size) (by simp <;> omega) 2 (v := .int .i64 t.n) (by go_simp)
    have p3 := cells4 hb13 (b := w.heap.size) (by simp <;> omega) 3 (v := .slice a t.l.length cap) (by go_simp)
    have q0 := cells4 hb13 (b := w.heap.size + 1) (by simp) 0 (v := .int .i64 u.k) (by go_simp)
    have q1 := cells4 hb13 (b := w.heap.size + 1) (by simp) 1 (v := .string u.s) (by go_simp)
    have q2 := cells4 hb13 (b := w.heap.size + 1) (by simp) 2 (v := .int .i64 u.n) (by go_simp)
    have q3 := cells4 hb13 (b := w.heap.size + 1) (by simp) 3 (v := .slice b u.l.length bap) (by go_simp)
    have hsub := Lib.hid (term_Subst t 0 u _ _ H w3 hs (by have := HSZ.out; unfold LB; omega) s1 s2 E0.agree hR0.out hU0.out)
    clear s1 s2 hs
    go_wp2_with fail
    refine hsub.out.mono ?_
    rintro e w4 ⟨H4, cs4, rfl, X, R4⟩
    have E1 := E0.then X
    have hn4 : H4 (w.heap.size + 1 + 1) = none := (X.old _ hzz).trans hn2
    have hbX := X.below
    have t0 := cells4 hbX hzz 0 r0
    have t1 := cells4 hbX hzz 1 r1
    have t2 := cells4 hbX hzz 2 r2
    have t3 := cells4 hbX hzz 3 r3
    have z0 := ((bcell hbX).2 _ 0 hzz).trans y0
    have z1 := ((bcell hbX).2 _ 1 hzz).trans y1
    have z2 := ((bcell hbX).2 _ 2 hzz).trans y2
    have z3 := ((bcell hbX).2 _ 3 hzz).trans y3
    generalize hY : t.subst 0 u = Y at R4
    have HY := Lib.hid hY
    clear hY hsub X hbX
    obtain ⟨ra, rc, rfl, -, -, -, -⟩ := R4.open_
    go_wp2_with fail
    rw [HC.out, HY.out]
    have hE := E1.store4 hn4 (by omega) (.int .i64 Y.k) (.string Y.s) (.int .i64 Y.n) (.slice ra Y.l.length rc)
    refine bodyPost_ret (v := .tuple #[.agg #[.int .i64 Y.k, .string Y.s, .int .i64 Y.n, .slice ra Y.l.length rc], .int .i64 0]) (by simp [results, Try.results96, go_sem, t0, t1, t2, t3]) rfl ⟨H4, _, rfl, hE, R4⟩
end Go.Proofs.Ytbdappbmlnpogaa
namespace Go.Proofs.Ytbdappbmlnpogaa
namespace Tm
mutual
/-- No number of what is bound is greater than so much. -/
def bnd (B : Int) : Tm → Bool | .mk k _ n l => (!(k == 3) || decide (n ≤ B)) && bndL B l
def bndL (B : Int) : List Tm → Bool | [] => true | t :: ts => t.bnd B && bndL B ts
end
theorem bnd_mk (B k s n l) : (mk k s n l).bnd B = ((!(k == 3) || decide (n ≤ B)) && bndL B l) := by rw [bnd]
theorem bndL_iff (B : Int) (l : List Tm) : bndL B l = true ↔ ∀ t ∈ l, t.bnd B = true := by
  induction l with
  | nil => rw [bndL]; simp
  | cons x xs ih => rw [bndL]; simp [ih]
theorem bnd_iff (B k s n l) : (mk k s n l).bnd B = true ↔ (k = 3 → n ≤ B) ∧ ∀ t ∈ l, t.bnd B = true := by
  rw [bnd_mk, Bool.and_eq_true, bndL_iff, Bool.or_eq_true, decide_eq_true_eq]
  by_cases h : k = 3 <;> simp [h]
theorem bnd_mono {B B' : Int} (h : B ≤ B') (t : Tm) : t.bnd B = true → t.bnd B' = true := by
  induction t using ind with
  | h k s n l ih =>
    rw [bnd_iff, bnd_iff]
    exact fun ⟨a, b⟩ => ⟨fun e => by have := a e; omega, fun t ht => ih t ht (b t ht)⟩
theorem valid_iff (k s n l) : (mk k s n l).valid = true ↔ ok1 (mk k s n l) = true ∧ ∀ t ∈ l, t.valid = true := by
  rw [valid_mk, Bool.and_eq_true, validL_iff]
theorem ok1_leaf {k s n l} (h : ok1 (mk k s n l) = true) (h5 : k ≠ 5) (h6 : k ≠ 6) : l = [] := by
  replace h : (if k = 0 then (isName s || isSym s) && (n == 0) && l.isEmpty
    else (s.size == 0) &&
      (if k = 1 then decide (1 ≤ n) && l.isEmpty
       else if k = 2 then l.isEmpty
       else if k = 3 ∨ k = 4 then decide (0 ≤ n ∧ n ≤ far) && l.isEmpty
       else if k = 5 then (n == 0) && (l.length == 1)
       else if k = 6 then (n == 0) && decide (2 ≤ l.length) && ((l.getD 0 zero).k != 6)
       else false)) = true := h
  by_cases h0 : k = 0
  · rw [if_pos h0] at h
    simp only [Bool.and_eq_true, List.isEmpty_iff] at h
    exact h.2
  rw [if_neg h0, if_neg h5, if_neg h6] at h
  by_cases h1 : k = 1
  · rw [if_pos h1] at h
    simp only [Bool.and_eq_true, List.isEmpty_iff] at h
    exact h.2.2
  rw [if_neg h1] at h
  by_cases h2 : k = 2
  · rw [if_pos h2] at h
    simp only [Bool.and_eq_true, List.isEmpty_iff] at h
    exact h.2
  rw [if_neg h2] at h
  by_cases h3 : k = 3 ∨ k = 4
  · rw [if_pos h3] at h
    simp only [Bool.and_eq_true, List.isEmpty_iff] at h
    exact h.2.2
  rw [if_neg h3] at h
  simp at h
theorem ok1_lam {s n l} : ok1 (mk 5 s n l) = true ↔ s.size = 0 ∧ n = 0 ∧ l.length = 1 := by
  rw [show ok1 (mk 5 s n l) = ((s.size == 0) && ((n == 0) && (l.length == 1))) from rfl]
  simp only [Bool.and_eq_true, beq_iff_eq]
theorem ok1_app {s n l} : ok1 (mk 6 s n l) = true ↔ s.size = 0 ∧ n = 0 ∧ 2 ≤ l.length ∧ (l.getD 0 zero).k ≠ 6 := by
  rw [show ok1 (mk 6 s n l) = ((s.size == 0) && ((n == 0) && decide (2 ≤ l.length) && ((l.getD 0 zero).k != 6))) from rfl]
  simp only [Bool.and_eq_true, beq_iff_eq, decide_eq_true_eq, bne_iff_ne, and_assoc]
theorem ok1_bound {s n l} : ok1 (mk 3 s n l) = true ↔ s.size = 0 ∧ 0 ≤ n ∧ n ≤ far ∧ l = [] := by
  rw [show ok1 (mk 3 s n l) = ((s.size == 0) && (decide (0 ≤ n ∧ n ≤ far) && l.isEmpty)) from rfl]
  simp only [Bool.and_eq_true, beq_iff_eq, decide_eq_true_eq, List.isEmpty_iff, and_assoc]
theorem size0 : (ByteArray.empty).size = 0 := rfl
/-- Apply keeps what is valid. -/
theorem valid_apply {f : Tm} {args : List Tm} (hf : f.valid = true) (ha : ∀ t ∈ args, t.valid = true) : (f.apply args).valid = true := by
  unfold apply
  split
  · exact hf
  · rename_i h0
    have hl : 0 < args.length := List.length_pos_iff.2 h0
    split
    · rename_i h
      cases f with
      | mk k s n l =>
        simp only [k_mk, l_mk] at h ⊢
        obtain ⟨rfl, hl0⟩ := h
        obtain ⟨h1, h2⟩ := (valid_iff ..).1 hf
        obtain ⟨-, -, h3, h4⟩ := ok1_app.1 h1
        refine (valid_iff ..).2 ⟨ok1_app.2 ⟨rfl, rfl, by simp; omega, ?_⟩, fun t ht => ?_⟩
        · cases l with
          | nil => simp at h3
          | cons x xs => simpa using h4
        · rcases List.mem_append.1 ht with ht | ht
          · exact h2 t ht
          · exact ha t ht
    · rename_i h
      refine (valid_iff ..).2 ⟨ok1_app.2 ⟨rfl, rfl, by simp; omega, ?_⟩, fun t ht => ?_⟩
      · simp only [List.getD_cons_zero]
        intro h6
        refine h ⟨h6, fun hl => ?_⟩
        cases f with
        | mk k s n l =>
          simp only [k_mk, l_mk] at h6 hl
          subst h6; subst hl
          have := (ok1_app.1 ((valid_iff ..).1 hf).1).2.2.1
          simp at this
      · rcases List.mem_cons.1 ht with rfl | ht
        · exact hf
        · exact ha t ht
theorem bnd_apply {B : Int} {f : Tm} {args : List Tm} (hf : f.bnd B = true) (ha : ∀ t ∈ args, t.bnd B = true) : (f.apply args).bnd B = true := by
  unfold apply
  split
  · exact hf
  · split
    · rename_i h
      cases f with
      | mk k s n l =>
        rw [bnd_iff] at hf ⊢
        refine ⟨by simp, fun t ht => ?_⟩
        rcases List.mem_append.1 ht with ht | ht
        · exact hf.2 t ht
        · exact ha t ht
    · rw [bnd_iff]
      refine ⟨by simp, fun t ht => ?_⟩
      rcases List.mem_cons.1 ht with rfl | ht
      · exact hf
      · exact ha t ht
theorem getD0_map (l : List Tm) (f : Tm → Tm) (h : 0 < l.length) : (l.map f).getD 0 zero = f (l.getD 0 zero) := by
  cases l with
  | nil => simp at h
  | cons x xs => rfl
theorem getD0_mem {l : List Tm} (h : 0 < l.length) : l.getD 0 zero ∈ l := by
  cases l with
  | nil => simp at h
  | cons x xs => simp
/-- Other leaves keep what is valid. -/
theorem valid_walk (f : Tm → Int → Tm) (t : Tm) : ∀ d, t.valid = true → (∀ p ∈ t.leaves d, p.1.valid = true → (f p.1 p.2).valid = true) → (t.walk f d).valid = true := by
  induction t using ind with
  | h k s n l ih =>
    intro d hv hl
    rw [walk_mk]
    rw [leaves] at hl
    obtain ⟨h1, h2⟩ := (valid_iff ..).1 hv
    split
    · rename_i hk
      rw [if_pos hk] at hl
      have hout : ∀ u ∈ walkL f l (d + if k = 5 then 1 else 0), u.valid = true := by
        rw [walkL_map]
        intro u hu
        obtain ⟨x, hx, rfl⟩ := List.mem_map.1 hu
        exact ih x hx _ (h2 x hx) (fun p hp => hl p (leaves_of_mem hx _ hp))
      have hlen : (walkL f l (d + if k = 5 then 1 else 0)).length = l.length := by rw [walkL_map, List.length_map]
      generalize walkL f l (d + if k = 5 then 1 else 0) = out at hout hlen
      unfold remake
      split
      · rename_i h
        exact valid_apply (hout _ (getD0_mem (by omega))) (fun t ht => hout t (List.mem_of_mem_drop ht))
      · rename_i h
        refine (valid_iff ..).2 ⟨?_, hout⟩
        rcases hk with rfl | rfl
        · rw [ok1_lam] at h1 ⊢
          omega
        · rw [ok1_app] at h1 ⊢
          refine ⟨h1.1, h1.2.1, by omega, fun h6 => h ⟨rfl, by omega, h6, h1.2.2.2⟩⟩
    · rename_i hk
      rw [if_neg hk] at hl
      exact hl (mk k s n l, d) (List.mem_singleton.2 rfl) hv
theorem bnd_walk (B B' : Int) (f : Tm → Int → Tm) (t : Tm) : ∀ d, t.bnd B = true → (∀ p ∈ t.leaves d, p.1.bnd B = true → (f p.1 p.2).bnd B' = true) → (t.walk f d).bnd B' = true := by
  induction t using ind with
  | h k s n l ih =>
    intro d hv hl
    rw [walk_mk]
    rw [leaves] at hl
    obtain ⟨h1, h2⟩ := (bnd_iff ..).1 hv
    split
    · rename_i hk
      rw [if_pos hk] at hl
      have hout : ∀ u ∈ walkL f l (d + if k = 5 then 1 else 0), u.bnd B' = true := by
        rw [walkL_map]
        intro u hu
        obtain ⟨x, hx, rfl⟩ := List.mem_map.1 hu
        exact ih x hx _ (h2 x hx) (fun p hp => hl p (leaves_of_mem hx _ hp))
      generalize walkL f l (d + if k = 5 then 1 else 0) = out at hout
      unfold remake
      split
      · rename_i h
        exact bnd_apply (hout _ (getD0_mem (by omega))) (fun t ht => hout t (List.mem_of_mem_drop ht))
      · rw [bnd_iff]
        exact ⟨fun e => by omega, hout⟩
    · rename_i hk
      rw [if_neg hk] at hl
      exact hl (mk k s n l, d) (List.mem_singleton.2 rfl) hv
/-- The leaves of a term that is valid have nothing within; they stand below no more abstractions than there are terms. -/
theorem leaves_valid (t : Tm) : ∀ d, t.valid = true → ∀ p ∈ t.leaves d, p.1.valid = true ∧ p.1.l = [] ∧ p.1.k ≠ 5 ∧ p.1.k ≠ 6 ∧ d ≤ p.2 ∧ p.2 + 1 ≤ d + t.size := by
  induction t using ind with
  | h k s n l ih =>
    intro d hv p hp
    obtain ⟨h1, h2⟩ := (valid_iff ..).1 hv
    rw [leaves] at hp
    split at hp
    · have hm : ∃ x ∈ l, p ∈ x.leaves (d + if k = 5 then 1 else 0) := by
        revert hp
        generalize (d + if k = 5 then 1 else 0) = D
        clear ih hv h1 h2
        intro hp
        induction l with
        | nil => rw [leavesL] at hp; cases hp
        | cons x xs ihx =>
          rw [leavesL] at hp
          rcases List.mem_append.1 hp with hp | hp
          · exact ⟨x, by simp, hp⟩
          · obtain ⟨y, hy, h⟩ := ihx hp
            exact ⟨y, by simp [hy], h⟩
      obtain ⟨x, hx, hp⟩ := hm
      obtain ⟨a, b, c, e, g, h⟩ := ih x hx _ (h2 x hx) p hp
      have := size_lt (k := k) (s := s) (n := n) hx
      refine ⟨a, b, c, e, ?_, ?_⟩
      · split at g <;> omega
      · split at h <;> omega
    · rename_i hk
      have : p = (mk k s n l, d) := by simpa using hp
      subst this
      refine ⟨hv, ok1_leaf h1 (by omega) (by omega), by simp; omega, by simp; omega, by simp, ?_⟩
      have := size_pos (mk k s n l)
      simp only []
      omega
theorem bnd_leaf {B : Int} (t : Tm) : ∀ d, t.bnd B = true → ∀ p ∈ t.leaves d, p.1.bnd B = true := by
  induction t using ind with
  | h k s n l ih =>
    intro d hv p hp
    obtain ⟨h1, h2⟩ := (bnd_iff ..).1 hv
    rw [leaves] at hp
    split at hp
    · have hm : ∃ x ∈ l, p ∈ x.leaves (d + if k = 5 then 1 else 0) := by
        revert hp
        generalize (d + if k = 5 then 1 else 0) = D
        clear ih hv h1 h2
        intro hp
        induction l with
        | nil => rw [leavesL] at hp; cases hp
        | cons x xs ihx =>
          rw [leavesL] at hp
          rcases List.mem_append.1 hp with hp | hp
          · exact ⟨x, by simp, hp⟩
          · obtain ⟨y, hy, h⟩ := ihx hp
            exact ⟨y, by simp [hy], h⟩
      obtain ⟨x, hx, hp⟩ := hm
      exact ih x hx _ (h2 x hx) p hp
    · have : p = (mk k s n l, d) := by simpa using hp
      subst this
      exact hv
theorem bound_of_valid {t : Tm} (h : t.valid = true) (h3 : t.k = 3) : 0 ≤ t.n ∧ t.n ≤ far := by
  cases t with
  | mk k s n l =>
    simp only [k_mk] at h3
    subst h3
    have := ok1_bound.1 ((valid_iff ..).1 h).1
    exact ⟨this.2.1, this.2.2.1⟩
theorem bnd_moved {B B' : Int} {u : Tm} {b : Int} (h : u.bnd B = true) (hb : u.k = 3 → u.n + b ≤ B') (hl : u.l = []) : (u.moved b).bnd B' = true := by
  unfold moved
  rw [bnd_iff, hl]
  exact ⟨hb, by simp⟩
theorem valid_moved {u : Tm} {b : Int} (h : u.valid = true) (h3 : u.k = 3) (h0 : 0 ≤ u.n + b) (h1 : u.n + b ≤ far) : (u.moved b).valid = true := by
  cases u with
  | mk k s n l =>
    simp only [k_mk, n_mk] at h3 h0 h1
    subst h3
    have := ok1_bound.1 ((valid_iff ..).1 h).1
    unfold moved
    exact (valid_iff ..).2 ⟨ok1_bound.2 ⟨this.1, h0, h1, this.2.2.2⟩, by simp [this.2.2.2]⟩
/-- Shift upwards. -/
theorem valid_shift {t : Tm} {B a b : Int} (ht : t.valid = true) (hB : t.bnd B = true) (hb : 0 ≤ b) (hf : B + b ≤ far) : (t.shift a b).valid = true ∧ (t.shift a b).bnd (B + b) = true := by
  constructor
  · refine valid_walk _ t 0 ht fun p hp hv => ?_
    have h1 := bnd_leaf t 0 hB p hp
    unfold shiftF
    split
    · rename_i h
      have h2 := bound_of_valid hv h.1
      have h3 : p.1.n ≤ B := by
        generalize p.1 = q at h1 h
        cases q with
        | mk k s n l => exact ((bnd_iff ..).1 h1).1 h.1
      exact valid_moved hv h.1 (by omega) (by omega)
    · exact hv
  · refine bnd_walk B (B + b) _ t 0 hB fun p hp h1 => ?_
    have h4 := leaves_valid t 0 ht p hp
    unfold shiftF
    split
    · rename_i h
      have h3 : p.1.n ≤ B := by
        generalize p.1 = q at h1 h
        cases q with
        | mk k s n l => exact ((bnd_iff ..).1 h1).1 h.1
      exact bnd_moved h1 (fun _ => by omega) h4.2.1
    · exact bnd_mono (by omega) _ h1
theorem remake_size_le (k s n) (l out : List Tm) (h : ∀ u ∈ out, u.shp = true) : (remake k s n l out).size ≤ 1 + sizeL out := by
  unfold remake
  split
  · rename_i hc
    cases out with
    | nil => simp at hc
    | cons x xs =>
      simp only [List.getD_cons_zero, List.drop_succ_cons, List.drop_zero, sizeL_cons] at hc ⊢
      have hh := shp_hd6 (h x (by simp)) hc.2.2.1
      unfold apply
      split
      · omega
      · rw [if_pos ⟨hc.2.2.1, hh⟩, size_mk, sizeL_append]
        cases x with
        | mk k s n l => rw [size_mk]; simp only [l_mk]; omega
  · rw [size_mk]; omega
theorem shp_iff (k s n l) : (mk k s n l).shp = true ↔ (k = 6 → l ≠ []) ∧ ∀ t ∈ l, t.shp = true := by
  rw [shp_mk, Bool.and_eq_true, shpL_iff]
  by_cases h : k = 6 <;> cases l <;> simp [h]
theorem shp_apply {f : Tm} {args : List Tm} (hf : f.shp = true) (ha : ∀ t ∈ args, t.shp = true) : (f.apply args).shp = true := by
  unfold apply
  split
  · exact hf
  · split
    · rename_i h
      cases f with
      | mk k s n l =>
        rw [shp_iff] at hf ⊢
        refine ⟨fun _ e => h.2 (List.append_eq_nil_iff.1 e).1, fun t ht => ?_⟩
        rcases List.mem_append.1 ht with ht | ht
        · exact hf.2 t ht
        · exact ha t ht
    · rw [shp_iff]
      refine ⟨by simp, fun t ht => ?_⟩
      rcases List.mem_cons.1 ht with rfl | ht
      · exact hf
      · exact ha t ht
theorem shp_walk (f : Tm → Int → Tm) (t : Tm) : ∀ d, t.shp = true → (∀ p ∈ t.leaves d, p.1.shp = true → (f p.1 p.2).shp = true) → (t.walk f d).shp = true := by
  induction t using ind with
  | h k s n l ih =>
    intro d hv hl
    rw [walk_mk]
    rw [leaves] at hl
    obtain ⟨h1, h2⟩ := (shp_iff ..).1 hv
    split
    · rename_i hk
      rw [if_pos hk] at hl
      have hout : ∀ u ∈ walkL f l (d + if k = 5 then 1 else 0), u.shp = true := by
        rw [walkL_map]
        intro u hu
        obtain ⟨x, hx, rfl⟩ := List.mem_map.1 hu
        exact ih x hx _ (h2 x hx) (fun p hp => hl p (leaves_of_mem hx _ hp))
      have hlen : (walkL f l (d + if k = 5 then 1 else 0)).length = l.length := by rw [walkL_map, List.length_map]
      generalize walkL f l (d + if k = 5 then 1 else 0) = out at hout hlen
      unfold remake
      split
      · exact shp_apply (hout _ (getD0_mem (by omega))) (fun t ht => hout t (List.mem_of_mem_drop ht))
      · rw [shp_iff]
        refine ⟨fun e h0 => ?_, hout⟩
        have := h1 e
        subst h0
        exact this (List.eq_nil_of_length_eq_zero hlen.symm)
    · rename_i hk
      rw [if_neg hk] at hl
      exact hl (mk k s n l, d) (List.mem_singleton.2 rfl) hv
/-- A walk's size, if its leaves become no larger than told. -/
theorem walk_size_le (f : Tm → Int → Tm) (c : Tm → Int → Nat) (cl : List Tm → Int → Nat) (hc : ∀ k s n l d, (k = 5 ∨ k = 6) → c (.mk k s n l) d = 1 + cl l (d + if k = 5 then 1 else 0)) (hn : ∀ d, cl [] d = 0) (hcons : ∀ t ts d, cl (t :: ts) d = c t d + cl ts d) (t : Tm) :
    ∀ d, t.shp = true → (∀ p ∈ t.leaves d, p.1.shp = true → (f p.1 p.2).shp = true ∧ (f p.1 p.2).size ≤ c p.1 p.2) → (t.walk f d).size ≤ c t d := by
  induction t using ind with
  | h k s n l ih =>
    intro d hv hl
    rw [walk_mk]
    rw [leaves] at hl
    obtain ⟨h1, h2⟩ := (shp_iff ..).1 hv
    split
    · rename_i hk
      rw [if_pos hk] at hl
      rw [hc k s n l d hk]
      have hout : ∀ u ∈ walkL f l (d + if k = 5 then 1 else 0), u.shp = true := by
        rw [walkL_map]
        intro u hu
        obtain ⟨x, hx, rfl⟩ := List.mem_map.1 hu
        exact shp_walk f x _ (h2 x hx) (fun p hp hv => (hl p (leaves_of_mem hx _ hp) hv).1)
      refine Nat.le_trans (remake_size_le k s n l _ hout) ?_
      refine Nat.add_le_add_left ?_ 1
      clear hout hv h1
      revert hl
      generalize (d + if k = 5 then 1 else 0) = D
      intro hl
      induction l with
      | nil => simp
      | cons x xs ihx =>
        rw [walkL_cons, sizeL_cons, hcons]
        refine Nat.add_le_add (ih x (by simp) D (h2 x (by simp)) fun p hp => hl p (by rw [leavesL]; simp [hp])) (ihx (fun t ht => ih t (by simp [ht])) (fun t ht => h2 t (by simp [ht])) fun p hp => hl p (by rw [leavesL]; simp [hp]))
    · rename_i hk
      rw [if_neg hk] at hl
      exact (hl (mk k s n l, d) (List.mem_singleton.2 rfl) hv).2
theorem leaf_shp {u : Tm} (h : u.k ≠ 6) (hl : u.l = []) : u.shp = true := by
  cases u with
  | mk k s n l =>
    simp only [k_mk, l_mk] at h hl
    subst hl
    exact (shp_iff ..).2 ⟨fun e => absurd e h, by simp⟩
theorem leaf_size {u : Tm} (hl : u.l = []) : u.size = 1 := by
  cases u with
  | mk k s n l =>
    simp only [l_mk] at hl
    subst hl
    rw [size_mk, sizeL_nil]
theorem shp_moved {u : Tm} (b : Int) (h : u.shp = true) : (u.moved b).shp = true := by
  cases u with
  | mk k s n l => rw [shp_iff] at h; exact (shp_iff ..).2 h
theorem shp_shiftF {u : Tm} (a b d : Int) (h : u.shp = true) : (shiftF a b u d).shp = true := by
  unfold shiftF
  split
  · exact shp_moved b h
  · exact h
theorem size_shiftF (u : Tm) (a b d : Int) : (shiftF a b u d).size = u.size := by
  unfold shiftF
  split
  · exact moved_size u b
  · rfl
theorem shp_shift {t : Tm} (a b : Int) (h : t.shp = true) : (t.shift a b).shp = true := shp_walk _ t 0 h fun p _ hp => shp_shiftF a b p.2 hp
theorem shift_size {t : Tm} (a b : Int) (h : t.shp = true) : (t.shift a b).size ≤ t.size :=
  walk_size_le (shiftF a b) (fun t _ => t.size) (fun l _ => sizeL l) (fun k s n l _ _ => size_mk k s n l) (fun _ => rfl) (fun t ts _ => sizeL_cons t ts) t 0 h
    fun p _ hp => ⟨shp_shiftF a b p.2 hp, by rw [size_shiftF]; exact Nat.le_refl _⟩
theorem occursL_nonneg (l : List Tm) (i : Int) : 0 ≤ occursL l i := by
  have := (occursL_take l i l.length).1
  rwa [List.take_length] at this
theorem shp_substF {s u : Tm} (i d : Int) (hs : s.shp = true) (h : u.shp = true) : (substF i s u d).shp = true := by
  unfold substF
  split
  · exact h
  · split
    · exact shp_shift 0 d hs
    · exact shp_moved _ h
theorem subst_size {t s : Tm} (i : Int) (h : t.shp = true) (hs : s.shp = true) : (t.subst i s).size ≤ t.size + (t.occurs i).toNat * s.size := by
  have := walk_size_le (substF i s) (fun t d => t.size + (t.occurs (d + i)).toNat * s.size) (fun l d => sizeL l + (occursL l (d + i)).toNat * s.size) ?_ ?_ ?_ t 0 h ?_
  · rw [show (0 : Int) + i = i by omega] at this
    exact this
  · intro k s' n l d hk
    simp only [size_mk]
    rw [occurs_mk, if_neg (by omega), Nat.add_assoc]
    have : (if k = 5 then d + i + 1 else d + i) = (d + if k = 5 then 1 else 0) + i := by split <;> omega
    rw [this]
  · intro d
    rw [occursL]
    simp
  · intro t ts d
    simp only [sizeL_cons]
    rw [occursL, Int.toNat_add (occurs_le t _).1 (occursL_nonneg ts _), Nat.add_mul]
    omega
  · intro p hp hshp
    refine ⟨shp_substF i p.2 hs hshp, ?_⟩
    unfold substF
    split
    · omega
    · split
      · rename_i h1 h2
        have h3 := shift_size 0 p.2 hs
        have h4 : p.1.occurs (p.2 + i) = 1 := by
          generalize p.1 = q at h1 h2
          cases q with
          | mk k s n l =>
            rw [occurs_mk, if_pos]
            simp only [k_mk, n_mk] at h1 h2
            omega
        simp only [h4]
        simp
        omega
      · rw [moved_size]; omega
theorem gsize_valid (t : Tm) : t.valid = true → t.gsize = t.size := by
  induction t using ind with
  | h k s n l ih =>
    intro hv
    obtain ⟨h1, h2⟩ := (valid_iff ..).1 hv
    rw [gsize, size_mk]
    split
    · clear h1 hv
      have : gsizeL l = sizeL l := by
        induction l with
        | nil => rw [gsizeL]; rfl
        | cons x xs ihx =>
          rw [gsizeL, sizeL_cons, ih x (by simp) (h2 x (by simp)), ihx (fun t ht => ih t (by simp [ht])) (fun t ht => h2 t (by simp [ht]))]
          omega
      omega
    · rw [ok1_leaf h1 (by omega) (by omega)]
      simp
theorem shiftL_valid {t : Tm} {d : Int} (h : t.valid = true) (hs : t.size ≤ SB) (hd : 0 ≤ d) (hd1 : d ≤ SB) : ∀ p ∈ t.leaves 0, ShiftL 0 d p.1 p.2 := by
  intro p hp
  obtain ⟨h1, h2, h3, h4, h5, h6⟩ := leaves_valid t 0 h p hp
  unfold SB at *
  refine ⟨fun e => absurd e h4, ?_, ?_, fun e => ?_⟩
  · rw [leaf_size h2]; unfold LB; omega
  · unfold I64; omega
  · have := bound_of_valid h1 e
    unfold I64 far at *
    omega
theorem substL_valid {t u : Tm} (h : t.valid = true) (hu : u.valid = true) (hs : t.size ≤ SB) (hsu : u.size ≤ SB) : ∀ p ∈ t.leaves 0, SubstL 0 u p.1 p.2 := by
  intro p hp
  obtain ⟨h1, h2, h3, h4, h5, h6⟩ := leaves_valid t 0 h p hp
  have hz := shift_size 0 p.2 (shp_of_valid u hu)
  have hsl := shiftL_valid hu hsu (d := p.2) (by omega) (by unfold SB at *; omega)
  unfold SB at *
  refine ⟨fun e => absurd e h4, ?_, ?_, fun e => ?_, fun _ _ => ⟨shp_of_valid u hu, ?_, ?_, hsl⟩⟩
  · rw [leaf_size h2]; unfold LB; omega
  · unfold I64; omega
  · have := bound_of_valid h1 e
    unfold I64 far at *
    omega
  · unfold LB; omega
  · unfold LB; omega
theorem contract_size {t u : Tm} (h : t.valid = true) (hu : u.valid = true) (h0 : (contract t u).2 = 0) : (t.subst 0 u).size ≤ 4096 ∧ (contract t u).1 = t.subst 0 u := by
  unfold contract at h0 ⊢
  split at h0
  · simp at h0
  · rename_i hn
    rw [if_neg hn]
    refine ⟨?_, rfl⟩
    rw [gsize_valid t h, gsize_valid u hu] at hn
    have h1 := subst_size 0 (shp_of_valid t h) (shp_of_valid u hu)
    have h2 := (occurs_le t 0).1
    have h3 : (((t.occurs 0).toNat * u.size : Nat) : Int) = t.occurs 0 * u.size := by
      rw [Int.natCast_mul, Int.toNat_of_nonneg h2]
    omega
/-- Valid, of bounded size, of bounded numbers. -/
structure Fit (S : Nat) (B : Int) (t : Tm) : Prop where
  v : t.valid = true
  s : t.size ≤ S
  b : t.bnd B = true
theorem Fit.mono {S S' : Nat} {B B' : Int} {t : Tm} (h : Fit S B t) (hS : S ≤ S') (hB : B ≤ B') : Fit S' B' t := ⟨h.v, Nat.le_trans h.s hS, bnd_mono hB t h.b⟩
theorem Fit.mem {S : Nat} {B : Int} {k : Int} {s : ByteArray} {n : Int} {l : List Tm} {u : Tm} (h : Fit S B (Tm.mk k s n l)) (hu : u ∈ l) : Fit S B u :=
  ⟨((valid_iff ..).1 h.v).2 u hu, by have := size_lt (k := k) (s := s) (n := n) hu; have := h.s; omega, ((bnd_iff ..).1 h.b).2 u hu⟩
theorem subst_fit {t u : Tm} {S : Nat} {B : Int} (h : Fit S B t) (hu : Fit S B u) (hB : B + S ≤ far) : (t.subst 0 u).valid = true ∧ (t.subst 0 u).bnd (B + S) = true := by
  constructor
  · refine valid_walk _ t 0 h.v fun p hp hv => ?_
    obtain ⟨h1, h2, h3, h4, h5, h6⟩ := leaves_valid t 0 h.v p hp
    have hs := h.s
    unfold substF
    split
    · exact hv
    · split
      · exact (valid_shift hu.v hu.b (by omega) (by omega)).1
      · rename_i h7 h8
        have := bound_of_valid hv (by omega)
        exact valid_moved hv (by omega) (by omega) (by omega)
  · refine bnd_walk B (B + S) _ t 0 h.b fun p hp hb => ?_
    obtain ⟨h1, h2, h3, h4, h5, h6⟩ := leaves_valid t 0 h.v p hp
    have hs := h.s
    unfold substF
    split
    · exact bnd_mono (by omega) _ hb
    · split
      · exact bnd_mono (by omega) _ (valid_shift hu.v hu.b (by omega) (by omega) (a := 0) (b := p.2)).2
      · refine bnd_moved (B := B) hb (fun e => ?_) h2
        generalize p.1 = q at hb e
        cases q with
        | mk k s n l =>
          have := ((bnd_iff ..).1 hb).1 e
          simp only [n_mk]
          omega
end Tm
end Go.Proofs.Ytbdappbmlnpogaa
namespace Go.Proofs.Ytbdappbmlnpogaa
open Go Go.RowKit
set_option maxRecDepth 100000
theorem Below.blk {w w1 : World} (hb : Below w.heap.size w w1) {b : Nat} {o : Obj} (h : w.heap[b]? = some o) : w1.heap[b]? = some o := (hb.block b (cell_lt h)).trans h
/-- A box of four cells. -/
theorem box4 {w : World} {b : Nat} {v0 v1 v2 v3 : Value} {T : TypeId} (h : w.heap[b]? = some (.cells #[v0, v1, v2, v3] T (0, 0))) :
    b < w.heap.size ∧ w.cell? ⟨b, 0, none⟩ = some v0 ∧ w.cell? ⟨b, 1, none⟩ = some v1 ∧ w.cell? ⟨b, 2, none⟩ = some v2 ∧ w.cell? ⟨b, 3, none⟩ = some v3 ∧
      w.frozen? ⟨b, 0, none⟩ = false ∧ w.frozen? ⟨b, 1, none⟩ = false ∧ w.frozen? ⟨b, 2, none⟩ = false ∧ w.frozen? ⟨b, 3, none⟩ = false :=
  ⟨cell_lt h, (blk_cells h 0).1, (blk_cells h 1).1, (blk_cells h 2).1, (blk_cells h 3).1, (blk_cells h 0).2, (blk_cells h 1).2, (blk_cells h 2).2, (blk_cells h 3).2⟩
/-- The cells of a term whose list lies at an address. -/
abbrev tcells (t : Tm) (a : Option Addr) (cap : Nat) : Array Value := #[.int .i64 t.k, .string t.s, .int .i64 t.n, .slice a t.l.length cap]
abbrev tbox (t : Tm) (a : Option Addr) (cap : Nat) : Obj := .cells (tcells t a cap) 30 (0, 0)
abbrev zbox : Obj := .cells #[.int .i64 0, .string ⟨#[]⟩, .int .i64 0, .slice none 0 0] 30 (0, 0)
theorem rep_zero (H : GH) : Rep H Tm.zero [.int .i64 0, .string ⟨#[]⟩, .int .i64 0, .slice none 0 0] :=
  Rep.shut (by unfold I64; omega) (by unfold I64; omega) (by simp [maxLen]) (Sl.nil _ _ _)
set_option maxHeartbeats 2000000 in
theorem beta_Contract (t u : Tm) (cs us : List Value) (H : GH) (w : World) (hR : Rep H t cs) (hU : Rep H u us) (hA : Agree H w) (hsz : t.size ≤ SB) (hszu : u.size ≤ SB) :
    Calls Try.prog 88 #[.agg cs.toArray, .agg us.toArray] w fun e w' => ∃ H' cs', e = .returned (.tuple #[.agg cs'.toArray, .int .i64 (t.contractV u).2]) ∧ Pure H w H' w' ∧ Rep H' (t.contractV u).1 cs' := by
  have h1 := Lib.hid (fun W hW => term_Valid t cs H W hR hW)
  have h2 := Lib.hid (fun W hW => term_Valid u us H W hU hW)
  have h3 := Lib.hid (fun W hW (hv : t.valid = true) (hw : u.valid = true) => beta_contract t u cs us H W hR hU hW hsz hszu (Tm.shp_of_valid t hv)
    (fun h0 => ⟨by have := (Tm.contract_size hv hw h0).1; unfold LB; omega, Tm.substL_valid hv hw hsz hszu⟩))
  obtain ⟨a, cap, rfl, -, -, -, -⟩ := hR.open_
  obtain ⟨b, bap, rfl, -, -, -, -⟩ := hU.open_
  clear hsz hszu hR hU
  have E0 := Lib.hid ((((Ext.refl (O := fun _ => False) hA).alloc (tbox t a cap)).alloc (tbox u b bap)).alloc zbox)
  have B0 := Lib.hid (show (((w.alloc (tbox t a cap)).alloc (tbox u b bap)).alloc zbox).heap[w.heap.size]? = some (tbox t a cap) from Below.blk (below_alloc _ _) (Below.blk (below_alloc _ _) (heap_alloc_new _ _)))
  have B1 := Lib.hid (show (((w.alloc (tbox t a cap)).alloc (tbox u b bap)).alloc zbox).heap[w.heap.size + 1]? = some (tbox u b bap) from Below.blk (below_alloc _ _) (heap_alloc_at _ _ _ (by simp)))
  have B2 := Lib.hid (show (((w.alloc (tbox t a cap)).alloc (tbox u b bap)).alloc zbox).heap[w.heap.size + 1 + 1]? = some zbox from heap_alloc_at _ _ _ (by simp))
  have hn : Hid (H (w.heap.size + 1 + 1) = none) := Lib.hid (hA.free (by omega))
  cases hv : t.valid with
  | false =>
    have ho := Lib.hid (show t.contractV u = (Tm.zero, 1) by unfold Tm.contractV; rw [hv]; rfl)
    have HV := Lib.hid hv
    clear hv
    go_enter Try.func88, Try.ntmps88
    go_wp2_with fail
    refine (h1.out _ E0.out.agree).mono ?_
    rw [HV.out]
    rintro e w1 ⟨rfl, hb1⟩
    obtain ⟨g0, g1, g2, g3, g4, g5, g6, g7, g8⟩ := box4 (Below.blk hb1 B2.out)
    have E1 := (E0.out.then_below hb1).store4 hn.out (by omega) (.int .i64 0) (.string ⟨#[]⟩) (.int .i64 0) (.slice none 0 0)
    go_wp2_with fail
    rw [ho.out]
    exact bodyPost_ret (v := .tuple #[.agg #[.int .i64 0, .string ⟨#[]⟩, .int .i64 0, .slice none 0 0], .int .i64 1]) (by simp [results, Try.results88, go_sem, g1, g2, g3, g4]) rfl ⟨H, _, rfl, E1, rep_zero H⟩
  | true =>
    cases hw : u.valid with
    | false =>
      have ho := Lib.hid (show t.contractV u = (Tm.zero, 1) by unfold Tm.contractV; rw [hv, hw]; rfl)
      have HV := Lib.hid hv
      have HW := Lib.hid hw
      clear hv hw
      go_enter Try.func88, Try.ntmps88
      go_wp2_with fail
      refine (h1.out _ E0.out.agree).mono ?_
      rw [HV.out]
      rintro e w1 ⟨rfl, hb1⟩
      obtain ⟨p0, p1, p2, p3, p4, p5, p6, p7, p8⟩ := box4 (Below.blk hb1 B1.out)
      go_wp2_with fail
      refine (h2.out _ (E0.out.then_below hb1).agree).mono ?_
      rw [HW.out]
      rintro e w2 ⟨rfl, hb2⟩
      obtain ⟨g0, g1, g2, g3, g4, g5, g6, g7, g8⟩ := box4 (Below.blk hb2 (Below.blk hb1 B2.out))
      have E1 := ((E0.out.then_below hb1).then_below hb2).store4 hn.out (by omega) (.int .i64 0) (.string ⟨#[]⟩) (.int .i64 0) (.slice none 0 0)
      go_wp2_with fail
      rw [ho.out]
      exact bodyPost_ret (v := .tuple #[.agg #[.int .i64 0, .string ⟨#[]⟩, .int .i64 0, .slice none 0 0], .int .i64 1]) (by simp [results, Try.results88, go_sem, g1, g2, g3, g4]) rfl ⟨H, _, rfl, E1, rep_zero H⟩
    | true =>
      have ho := Lib.hid (show t.contractV u = t.contract u by unfold Tm.contractV; rw [hv, hw]; rfl)
      have h3' := Lib.hid (fun W hW => h3.out W hW hv hw)
      have HV := Lib.hid hv
      have HW := Lib.hid hw
      clear hv hw h3
      go_enter Try.func88, Try.ntmps88
      go_wp2_with fail
      refine (h1.out _ E0.out.agree).mono ?_
      rw [HV.out]
      rintro e w1 ⟨rfl, hb1⟩
      obtain ⟨p0, p1, p2, p3, p4, p5, p6, p7, p8⟩ := box4 (Below.blk hb1 B1.out)
      go_wp2_with fail
      refine (h2.out _ (E0.out.then_below hb1).agree).mono ?_
      rw [HW.out]
      rintro e w2 ⟨rfl, hb2⟩
      obtain ⟨q0, q1, q2, q3, q4, q5, q6, q7, q8⟩ := box4 (Below.blk hb2 (Below.blk hb1 B0.out))
      obtain ⟨r0, r1, r2, r3, r4, r5, r6, r7, r8⟩ := box4 (Below.blk hb2 (Below.blk hb1 B1.out))
      go_wp2_with fail
      refine (h3'.out _ ((E0.out.then_below hb1).then_below hb2).agree).mono ?_
      rintro e w3 ⟨H3, cs3, rfl, X3, R3⟩
      have B3 := Below.blk X3.below (Below.blk hb2 (Below.blk hb1 B2.out))
      obtain ⟨g0, g1, g2, g3, g4, g5, g6, g7, g8⟩ := box4 B3
      have hn3 : H3 (w.heap.size + 1 + 1) = none := (X3.old _ (cell_lt (Below.blk hb2 (Below.blk hb1 B2.out)))).trans hn.out
      have E2 := ((E0.out.then_below hb1).then_below hb2).then X3
      generalize hZ : t.contract u = Z at R3 ⊢
      obtain ⟨Y, Z⟩ := Z
      have HZ := Lib.hid hZ
      clear hZ
      dsimp only at R3 ⊢
      obtain ⟨xa, xc, rfl, -, -, -, -⟩ := R3.open_
      go_wp2_with fail
      have E3 := E2.store4 hn3 (by omega) (.int .i64 Y.k) (.string Y.s) (.int .i64 Y.n) (.slice xa Y.l.length xc)
      rw [ho.out, HZ.out]
      exact bodyPost_ret (v := .tuple #[.agg #[.int .i64 Y.k, .string Y.s, .int .i64 Y.n, .slice xa Y.l.length xc], .int .i64 Z]) (by simp [results, Try.results88, go_sem, g1, g2, g3, g4]) rfl ⟨H3, _, rfl, E3, R3⟩
end Go.Proofs.Ytbdappbmlnpogaa
