/- The law InvertOthers, walked. -/
import Derived.Test.YtbdappbmlnpogaaLawrow
import Derived.OwnWalk
namespace Go.Proofs.Ytbdappbmlnpogaa
open Go Go.RowKit
set_option maxRecDepth 100000
theorem rep_leaves {H : GH} (t : Tm) : ∀ (cs : List Value) (d : Int), Rep H t cs → ∀ p ∈ t.leaves d, I64 p.1.n := by
  induction t using Tm.ind with
  | h k s n l ih =>
    intro cs d hR p hp
    rw [Tm.leaves] at hp
    split at hp
    · have hm : ∃ x ∈ l, p ∈ x.leaves (d + if k = 5 then 1 else 0) := by
        revert hp
        generalize (d + if k = 5 then 1 else 0) = D
        clear ih hR
        intro hp
        induction l with
        | nil => rw [Tm.leavesL] at hp; cases hp
        | cons x xs ihx =>
          rw [Tm.leavesL] at hp
          rcases List.mem_append.1 hp with hp | hp
          · exact ⟨x, by simp, hp⟩
          · obtain ⟨y, hy, h⟩ := ihx hp
            exact ⟨y, by simp [hy], h⟩
      obtain ⟨x, hx, hp⟩ := hm
      obtain ⟨i, hi⟩ := List.getElem?_of_mem hx
      obtain ⟨a, cap, rfl, -, -, -, hl⟩ := hR.open_
      obtain ⟨b, o, xs, -, -, hRx, -⟩ := hl.get hi
      exact ih x hx xs _ hRx p hp
    · have : p = (Tm.mk k s n l, d) := by simpa using hp
      subst this
      exact hR.open_.choose_spec.choose_spec.2.2.1
/-- So many variables, all free. -/
def FreeS (levels : List Int) : St := ⟨levels.map (fun v => ⟨St.top0 v, false, Tm.zero⟩), []⟩
theorem free_step (levels : List Int) (j : Nat) (v : Int) (h : levels[j]? = some v) : (FreeS (levels.take j)).fresh v = FreeS (levels.take (j + 1)) := by
  unfold FreeS St.fresh
  rw [List.take_add_one, h]
  simp
theorem free_ok (levels : List Int) (M : Nat) (B : Int) (hM : 4097 ≤ M) : (FreeS levels).Ok M B := ⟨hM, fun i hi hb => by
  unfold FreeS at hi
  obtain ⟨v, -, rfl⟩ := List.mem_map.1 hi
  cases hb⟩
/-- What the law says of an inversion among free variables. -/
def OthersOk (levels : List Int) (x : Int) (t : Tm) (r : (Tm × Int × Int) × St) : Prop :=
  (∀ (i : Nat) (v : Int), levels[i]? = some v → ∃ y, r.2.info i = (y, true) ∧ y.lv = St.top0 v ∧ (y.bd = true → (i : Int) ∈ t.vars ∧ (i : Int) ≠ x)) ∧ (r.1.2.2 = 0 → r.1.2.1 ≤ 80) ∧ (r.1.2.2 ≠ 0 → r.1.2.1 = 0)
def InAt (n : Nat) (vs : List Int) : List Bool := (List.range n).map (fun (i : Nat) => decide ((i : Int) ∈ vs))
theorem inAt_set (n : Nat) (vs : List Int) (v : Int) (k : Nat) (hv : v = k) : (InAt n vs).set k true = InAt n (vs ++ [v]) := by
  apply List.ext_getElem?
  intro i
  unfold InAt
  rw [List.getElem?_set]
  by_cases hi : i < n
  · by_cases e : k = i
    · subst e; subst hv; simp [hi]
    · have e2 : ¬ ((i : Int) = v) := by omega
      simp [e, hi, e2]
  · by_cases e : k = i
    · subst e; simp [hi]
    · simp [e, hi]
theorem inAt_far (n : Nat) (vs : List Int) (v : Int) (hv : (n : Int) ≤ v) : InAt n vs = InAt n (vs ++ [v]) := by
  unfold InAt
  apply List.map_congr_left
  intro i hi
  have hi := List.mem_range.1 hi
  have e2 : ¬ ((i : Int) = v) := by omega
  simp [e2]
theorem isSl_bools : IsSl Try.prog 23 4 1 1 := isSl_of (z := .bool false) Try.underlying23 (by kernel_rfl) rfl (by decide)
theorem vars_mem (L : List (Tm × Int)) (v : Int) : ∀ acc : List Int, v ∈ L.foldl Tm.varsStep acc ↔ v ∈ acc ∨ ∃ p ∈ L, p.1.k = 4 ∧ p.1.n = v := by
  induction L with
  | nil => intro acc; simp
  | cons q qs ih =>
    intro acc
    rw [List.foldl_cons, ih]
    have hst : v ∈ Tm.varsStep acc q ↔ v ∈ acc ∨ (q.1.k = 4 ∧ q.1.n = v) := by
      unfold Tm.varsStep
      split
      · rename_i hc
        simp only [List.mem_append, List.mem_singleton]
        constructor
        · rintro (h | h)
          · exact .inl h
          · exact .inr ⟨hc.1, h.symm⟩
        · rintro (h | h)
          · exact .inl h
          · exact .inr h.2.symm
      · rename_i hc
        constructor
        · exact .inl
        · rintro (h | h)
          · exact h
          · by_cases hm : q.1.n ∈ acc
            · rw [← h.2]; exact hm
            · exact absurd ⟨h.1, hm⟩ hc
    rw [hst]
    constructor
    · rintro ((h | h) | ⟨p, hp, h⟩)
      · exact .inl h
      · exact .inr ⟨q, by simp, h⟩
      · exact .inr ⟨p, by simp [hp], h⟩
    · rintro (h | ⟨p, hp, h⟩)
      · exact .inl (.inl h)
      · rcases List.mem_cons.1 hp with rfl | hp
        · exact .inl (.inr h)
        · exact .inr ⟨p, hp, h⟩
theorem vars_iff (t : Tm) (v : Int) : v ∈ t.vars ↔ ∃ p ∈ t.leaves 0, p.1.k = 4 ∧ p.1.n = v := by
  unfold Tm.vars
  rw [vars_mem]
  simp
theorem vars_nn {t : Tm} (hv : t.valid = true) : ∀ v ∈ t.vars, 0 ≤ v := by
  intro v h
  obtain ⟨p, hp, hk, rfl⟩ := (vars_iff t v).1 h
  obtain ⟨h1, h2, -⟩ := Tm.leaves_valid t 0 hv p hp
  obtain ⟨⟨k, s, n, l⟩, d⟩ := p
  dsimp only at hk h1 ⊢
  simp only [Tm.k_mk] at hk
  subst hk
  have := ((Tm.valid_iff ..).1 h1).1
  unfold Tm.ok1 at this
  simp at this
  simp only [Tm.n_mk]
  omega
theorem others_ask (levels : List Int) (x : Int) (l : List Tm) (t : Tm) (h8 : levels.length ≤ 8) (h6 : l.length ≤ 6) (hv : t.valid = true) (hs : t.size ≤ 24) (hb : t.bnd 1000 = true) : Ask ⟨x, ((FreeS levels).info x).1.lv, l⟩ 4097 ⟨FreeS levels, 80, 0⟩ t DB :=
  ⟨free_ok _ _ _ (Nat.le_refl _), by dsimp only; omega, by dsimp only; decide, hv, Tm.bnd_mono (by decide) t hb, Int.le_refl _, by have : SB = 1073741824 := rfl; dsimp only; omega, by dsimp only; decide, by unfold FreeS; simp; omega, by unfold FreeS; simp⟩
theorem info_bool : ∃ i, (Try.prog).info? 4 = some i ∧ i.zero = some (.bool false) ∧ i.size = 1 ∧ i.bytes = 1 := info_parts (by rfl)
theorem own_falses {H : GH} {w9 : World} {base n : Nat} {v : Value} (hA : ∀ g, v.ownBlock = some g → H g = none) (h : w9.ownsRow base 4 1 v n (madeCells (Value.bool false).cells (n * 1)).toList) : Own H w9 base 4 1 BoolP v (InAt n []) := by
  have e : (madeCells (Value.bool false).cells (n * 1)).toList = List.replicate n (.bool false) := by rw [Nat.mul_one]; exact toList_madeCells_one _ _
  rw [e] at h
  have hl : (InAt n []).length = n := by unfold InAt; simp
  refine ⟨List.replicate n (.bool false), by rw [hl]; exact h, hA, fun i x hi => ?_⟩
  have hin := (List.getElem?_eq_some_iff.1 hi).1
  rw [hl] at hin
  have hx : x = false := by
    unfold InAt at hi
    simp [List.getElem?_range, hin] at hi
    exact hi
  subst hx
  unfold BoolP
  rw [Nat.mul_one, List.drop_replicate, List.take_replicate, show min 1 (n - i) = 1 by omega]
  rfl
set_option maxHeartbeats 16000000 in
theorem law_InvertOthers (H : GH) (w : World) (levels : List Int) (vL : Value) (x : Int) (l : List Tm) (vl : Value) (t : Tm) (cs : List Value) (hA : Agree H w) (hL : Ints H vL levels) (hx : I64 x) (hK : Tms H vl l) (hR : Rep H t cs)
    (hplain : t.valid = true → levels.length ≤ 8 → l.length ≤ 6 → t.size ≤ 24 → t.bnd 1000 = true → OthersOk levels x t ((FreeS levels).invert x l t 80)) :
    Calls Try.prog 4 #[vL, .int .i64 x, vl, .agg cs.toArray] w fun e w' => e = .returned (.bool true) ∧ Below w.heap.size w w' := by
  have HR := Lib.hid hR
  obtain ⟨a, cap, rfl, -, -, -, -⟩ := hR.open_
  obtain ⟨La, Lc, rfl, hLl, hLm⟩ := hL.form
  obtain ⟨ka, kc, rfl, hkl, hkm⟩ := hK.form
  unfold maxLen at hLm
  have A0 := Lib.hid (hA.alloc (tbox t a cap))
  have B0 := Lib.hid (heap_alloc_new w (tbox t a cap))
  have P0 := Lib.hid ((Ext.refl (O := fun _ => False) hA).alloc (tbox t a cap))
  have hwk := Lib.hid (law_works H _ A0.out)
  have HP := Lib.hid hplain
  have HL := Lib.hid hL
  have HK := Lib.hid hK
  clear hL hK hR hplain
  go_enter Try.func4, Try.ntmps4
  go_wp2_with fail
  refine hwk.out.mono ?_
  rintro e w1 ⟨rfl, hb1⟩
  have P1 := Lib.hid (P0.out.then_below hb1)
  have B1 := Lib.hid (Below.blk hb1 B0.out)
  have hrow := Lib.hid (law_row H w1 _ l P1.out.agree HK.out)
  clear hwk hb1 P0 B0 A0
  go_wp2_with fail
  refine hrow.out.mono ?_
  rintro e w2 ⟨b1, rfl, hb2, hrow1⟩
  have P2 := Lib.hid (P1.out.then_below hb2)
  have B2 := Lib.hid (Below.blk hb2 B1.out)
  have HR1 := Lib.hid hrow1
  have hz2 : w.heap.size < w2.heap.size := cell_lt B2.out
  have hn2 : H w2.heap.size = none := hA.free (by omega)
  have P2a := Lib.hid (P2.out.alloc (tbox t a cap))
  obtain ⟨s1, a1, t1⟩ := box_tms P2a.out.agree HR.out (heap_alloc_new w2 (tbox t a cap)) hn2
  have P3 := Lib.hid (P2a.out.put (heap_alloc_new w2 (tbox t a cap)) hn2 (by omega))
  have hrow2 := Lib.hid (law_row (H.put w2.heap.size (tbox t a cap)) _ _ [t] a1 t1)
  have HS1 := Lib.hid s1
  obtain ⟨p0, p1, p2, p3, p4, p5, p6, p7, p8⟩ := box4 B2.out
  clear hrow hb2 hrow1 t1 a1 s1 P2a
  go_wp2_with fail
  refine hrow2.out.mono ?_
  rintro e w3 ⟨b2, rfl, hb3, hrow3⟩
  have P4 := Lib.hid (P3.out.then_below hb3)
  have B3 := Lib.hid (Below.blk hb3 (Below.blk (below_alloc w2 (tbox t a cap)) B2.out))
  have HR2 := Lib.hid hrow3
  have hvd := Lib.hid (term_Valid t _ _ w3 (HR.out.mono HS1.out) P4.out.agree)
  obtain ⟨p0, p1, p2, p3, p4, p5, p6, p7, p8⟩ := box4 B3.out
  clear hrow2 hb3 hrow3 P3
  go_wp2_with fail
  refine hvd.out.mono ?_
  generalize hvv : t.valid = vv at *
  rintro e w4 ⟨rfl, hb4⟩
  have P5 := Lib.hid (P4.out.then_below hb4)
  have B4 := Lib.hid (Below.blk hb4 B3.out)
  clear hvd hb4 p0 p1 p2 p3 p4 p5 p6 p7 p8 P4 B3 B2 P2 B1 P1
  cases b1 with
  | true =>
    go_wp2_with fail
    go_ret
    exact ⟨rfl, P5.out.below⟩
  | false =>
    cases b2 with
    | true =>
      go_wp2_with fail
      go_ret
      exact ⟨rfl, P5.out.below⟩
    | false =>
      cases vv with
      | false =>
        go_wp2_with fail
        go_ret
        exact ⟨rfl, P5.out.below⟩
      | true =>
        by_cases h8 : 8 < (levels.length : Int)
        · go_wp2_with fail
          go_ret
          exact ⟨rfl, P5.out.below⟩
        · have hd8 : decide (8 < (levels.length : Int)) = false := decide_eq_false h8
          have hv := Lib.hid hvv
          have hsm := Lib.hid ((HR2.out rfl).2 t (by simp))
          have hl6 := (HR1.out rfl).1
          have hok := Lib.hid (HP.out rfl (by omega) hl6 hsm.out.1 hsm.out.2)
          generalize hH5 : H.put w2.heap.size (tbox t a cap) = H5 at *
          clear hvv HP HR1 HR2 hH5
          have hnew := Lib.hid (store_New H5 w4 P5.out.agree)
          go_wp2_with fail
          refine hnew.out.mono ?_
          rintro e w5 ⟨rfl, X5, S5⟩
          have P6 := Lib.hid (P5.out.then X5)
          have B5 := Lib.hid (Below.blk X5.below B4.out)
          have hz4 : w.heap.size < w4.heap.size := cell_lt B4.out
          have S6 := Lib.hid (S5.mono (F' := fun k => w4.heap.size ≤ k) (fun k hk => by omega))
          clear hnew X5 S5
          go_wp2_with fail
          have hLN : (levels.length : Int) ≤ 8 := by omega
          have HZ4 := Lib.hid hz4
          go_loopw [14] (fun i wr => ∃ (j : Nat), j ≤ levels.length ∧ i = .int .i64 j ∧ Pure H w H5 wr ∧ wr.heap[w.heap.size]? = some (tbox t a cap) ∧ StAt H5 wr (fun k => w4.heap.size ≤ k) w4.heap.size (FreeS (levels.take j))) (fun i _ => levels.length - (intOf i).toNat)
          case atStart => exact ⟨0, Nat.zero_le _, rfl, P6.out, B5.out, S6.out⟩
          case round =>
            obtain ⟨j, hj, rfl, P7, B7, S7⟩ := hrel
            by_cases hlt : j < levels.length
            · obtain ⟨v, hv1⟩ : ∃ v, levels[j]? = some v := ⟨_, List.getElem?_eq_getElem hlt⟩
              obtain ⟨lb, lo, ics, rfl, -, ⟨rfl, hv64⟩, hcell⟩ := HL.out.get hv1
              have c0 := P7.agree.cell (GH.cell?_mono P7.sub (hcell 0 _ rfl))
              simp only [Nat.add_zero, Nat.mul_one] at c0
              have hbl := World.block_lt_of_cell? wr _ c0
              have hfr := Lib.hid (store_Fresh H5 wr w4.heap.size (FreeS (levels.take j)) v P7.agree S7.tight hv64 (by unfold FreeS; simp; omega))
              have HST := Lib.hid (free_step levels j v hv1)
              have HP7 := Lib.hid P7
              have HB7 := Lib.hid B7
              have hzr : w4.heap.size < wr.heap.size := S7.lt
              have HZR := Lib.hid hzr
              clear hcell hv1 P7 B7 S7 hzr
              go_wp2_with fail
              refine hfr.out.mono ?_
              rintro e w8 ⟨rfl, X8, S8⟩
              rw [HST.out] at S8
              have P8 := Lib.hid (HP7.out.trans X8 (fun k hk hlt => by have := hk.1; have := HZ4.out; omega))
              have B8 := Lib.hid ((X8.block w.heap.size (cell_lt HB7.out) (fun h => by have := h.1; have := HZ4.out; omega)).trans HB7.out)
              have S9 := Lib.hid (S8.mono (F' := fun k => w4.heap.size ≤ k) (fun k hk => hk.elim (fun h => h.1) (fun h => by have := HZR.out; omega)))
              clear hfr X8 S8
              go_wp2_with fail
              go_roundw
              case rel => exact ⟨j + 1, by omega, by go_num, P8.out, B8.out, S9.out⟩
              case measure => simp [intOf]; omega
            · have hjl : levels.take j = levels := List.take_of_length_le (by omega)
              rw [hjl] at S7
              have hd3 : decide ((j : Int) < (levels.length : Int)) = false := decide_eq_false (by omega)
              have hsz := hsm.out.1
              have hvars := Lib.hid (term_Vars t _ H5 wr (rep_leaves t _ 0 (HR.out.mono P7.sub)) (by unfold LB; omega) P7.agree (HR.out.mono P7.sub))
              have HP7 := Lib.hid P7
              have HB7 := Lib.hid B7
              have HS7 := Lib.hid S7
              obtain ⟨p0, p1, p2, p3, p4, p5, p6, p7, p8⟩ := box4 B7
              clear hjl P7 B7 S7 hsz
              go_wp2_with fail
              refine hvars.out.mono ?_
              rintro e w8 ⟨H8, vv, rfl, hI8, X8⟩
              have P8 := Lib.hid (HP7.out.then X8)
              have B8 := Lib.hid (Below.blk X8.below HB7.out)
              have S8 := Lib.hid (HS7.out.pure X8)
              have HI := Lib.hid hI8
              obtain ⟨va, vc, rfl, hvl, hvm⟩ := hI8.form
              unfold maxLen at hvm
              clear hvars X8 hI8 p0 p1 p2 p3 p4 p5 p6 p7 p8
              obtain ⟨bi, hbi'⟩ := info_bool
              have hbi := Lib.hid hbi'
              clear hbi'
              go_wp2_with (at_make; refine wpList_make_full _ rfl _ _ _ rfl w8.heap.size 4 bi (.bool false) 1 Try.underlying23 hbi.out.1 hbi.out.2.1 hbi.out.2.2.1 .i64 .i64 _ _ levels.length rfl rfl rfl rfl (by rw [hbi.out.2.2.2]; omega) (by unfold maxLen; omega) (Nat.le_refl _) ?_; intro w9 hown hg9)
              have hown2 := own_falses (H := H8) (fun g hg => by simp [Value.ownBlock] at hg; subst hg; exact P8.out.agree.free (Nat.le_refl _)) hown
              have P9 := Lib.hid (P8.out.grown hg9 (fun g hg => by cases hg) (fun g hg => by cases hg))
              have B9 := Lib.hid ((hg9.block w.heap.size (cell_lt B8.out) (fun h => by cases h)).trans B8.out)
              have X9 : Pure H8 w8 H8 w9 := (Ext.refl P8.out.agree).grown hg9 (fun g hg => by cases hg) (fun g hg => by cases hg)
              have S9 := Lib.hid (S8.out.pure X9)
              have OW := Lib.hid hown2
              have hlen : (InAt levels.length []).length = levels.length := by unfold InAt; simp
              have hz9 : w8.heap.size < w9.heap.size := (hown2.lt _ rfl).2
              have HZ8 := Lib.hid S8.out.lt
              have HZ9 := Lib.hid hz9
              clear hown hg9 hown2 hlen hz9 hbi
              have X9' := X9
              clear X9
              go_wp2_with fail
              have S10 := Lib.hid (S8.out.tight.pure X9')
              have hvn := Lib.hid (vars_nn hv.out)
              have HSM := Lib.hid (And.intro hl6 (And.intro hsm.out hv.out))
              have hvN : (t.vars.length : Int) ≤ 9223372036854775807 := by omega
              generalize hV : t.vars = V at *
              have HV := Lib.hid hV
              clear hV
              go_loopw [17] (fun i wr => ∃ (j : Nat), j ≤ V.length ∧ i = .int .i64 j ∧ Ext (fun k => k = w8.heap.size) H8 w9 H8 wr ∧ Own H8 wr w8.heap.size 4 1 BoolP (.slice (some ⟨w8.heap.size, 0, none⟩) levels.length levels.length) (InAt levels.length (V.take j))) (fun i _ => V.length - (intOf i).toNat)
              case atStart => exact ⟨0, Nat.zero_le _, rfl, Ext.refl P9.out.agree, by simpa using OW.out⟩
              case round =>
                obtain ⟨j, hj, rfl, PR, own⟩ := hrel
                have HPR := Lib.hid PR
                have HOWN := Lib.hid own
                by_cases hlt : j < V.length
                · obtain ⟨v, hv1⟩ : ∃ v, V[j]? = some v := ⟨_, List.getElem?_eq_getElem hlt⟩
                  have hv0 := hvn v (List.mem_of_getElem? hv1)
                  obtain ⟨b, o, ics, rfl, -, ⟨rfl, hv64⟩, hcell⟩ := HI.out.get hv1
                  have c0 := PR.agree.cell (hcell 0 _ rfl)
                  simp only [Nat.add_zero, Nat.mul_one] at c0
                  have hbl := World.block_lt_of_cell? wr _ c0
                  have htk : Hid (V.take (j + 1) = V.take j ++ [v]) := Lib.hid (by rw [List.take_add_one, hv1]; rfl)
                  by_cases hvl : v < (levels.length : Int)
                  · obtain ⟨k, rfl⟩ : ∃ k : Nat, v = k := ⟨v.toNat, by omega⟩
                    have hkl : k < (InAt levels.length (V.take j)).length := by unfold InAt; simp; omega
                    obtain ⟨y, hy⟩ : ∃ y, (InAt levels.length (V.take j))[k]? = some y := ⟨_, List.getElem?_eq_getElem hkl⟩
                    obtain ⟨g', gc, bcs, hvv', -, rfl, hcell2, hfz, -, -, hgw⟩ := own.get (fun _ _ h => by rw [h]; rfl) hy
                    injection hvv' with e1 e2 e3
                    injection e1 with e1
                    injection e1 with e1
                    subst e1
                    have d0 := hcell2 0 _ rfl
                    have f0 := hfz k
                    simp only [Nat.add_zero, Nat.mul_one] at d0
                    have OS := own.set rfl hkl (y := true) (vs := [.bool true]) rfl rfl
                    rw [inAt_set _ _ _ _ rfl, ← htk.out] at OS
                    have HOS := Lib.hid (show Own H8 (wr.setCell ⟨w8.heap.size, k, none⟩ (.bool true)) w8.heap.size 4 1 BoolP (.slice (some ⟨w8.heap.size, 0, none⟩) levels.length levels.length) (InAt levels.length (V.take (j + 1))) by rw [Nat.mul_one] at OS; exact OS)
                    have PS := Lib.hid (PR.setCell (p := ⟨w8.heap.size, k, none⟩) (own.free _ rfl) (fun _ => rfl) (.bool true))
                    clear hcell hcell2 hfz OS hy PR own hv1 e2 e3
                    go_wp2_with fail
                    go_roundw
                    case rel => exact ⟨j + 1, by omega, by go_num, PS.out, HOS.out⟩
                    case measure => simp [intOf]; omega
                  · have hdv : decide (v < (levels.length : Int)) = false := decide_eq_false hvl
                    have hfar := Lib.hid (inAt_far levels.length (V.take j) v (by omega))
                    clear hcell PR own hv1
                    go_wp2_with fail
                    go_roundw
                    case rel => exact ⟨j + 1, by omega, by go_num, HPR.out, by rw [htk.out, ← hfar.out]; exact HOWN.out⟩
                    case measure => simp [intOf]; omega
                · have hjl : V.take j = V := List.take_of_length_le (by omega)
                  rw [hjl] at own
                  have hd4 : decide ((j : Int) < (V.length : Int)) = false := decide_eq_false (by omega)
                  have hz8 := HZ8.out
                  have hz4' := HZ4.out
                  have P10 := Lib.hid (P9.out.trans PR (fun k hk hlt => by have := P8.out.size; omega))
                  have S11 := Lib.hid (S10.out.ext PR (fun k hk hF => by have := hF.2; omega))
                  have B10 := Lib.hid ((PR.block w.heap.size (cell_lt B9.out) (by omega)).trans B9.out)
                  have OW10 := Lib.hid own
                  have hwr := Lib.hid (Nat.lt_of_lt_of_le HZ9.out PR.size)
                  have hinv := Lib.hid (invert_Invert H8 wr w4.heap.size (FreeS levels) 4097 DB x l _ t _ 80 P10.out.agree S11.out hx (HK.out.mono P10.out.sub) (by omega) (HR.out.mono P10.out.sub) (by unfold I64; omega) (fun hvv => others_ask levels x l t (by omega) HSM.out.1 hvv HSM.out.2.1.1 HSM.out.2.1.2))
                  obtain ⟨p0, p1, p2, p3, p4, p5, p6, p7, p8⟩ := box4 B10.out
                  clear hjl PR own HPR HOWN S10 P9 B9 OW S9 hvn
                  go_wp2_with fail
                  refine hinv.out.mono ?_
                  unfold InvertPost
                  generalize hrr : (FreeS levels).invert x l t 80 = r at *
                  obtain ⟨⟨rt, rn, re⟩, rS⟩ := r
                  rintro e w11 ⟨H11, rcs, rfl, X11, R11, S11'⟩
                  dsimp only at R11 S11'
                  have hzw := hwr.out
                  have P11 := Lib.hid (P10.out.trans X11 (fun k hk hlt => by have := hk.1; omega))
                  have S12 := Lib.hid S11'
                  have OW11 := Lib.hid (OW10.out.ext X11 (fun g hg hF => by
                    have hgg : g = w8.heap.size := by simp [Value.ownBlock] at hg; exact hg.symm
                    subst hgg
                    have := hF.2; omega) (fun _ _ h => h))
                  obtain ⟨ra, rc, rfl, -, -, -, -⟩ := R11.open_
                  have P12 := Lib.hid (P11.out.alloc (tbox rt ra rc))
                  have S13 := Lib.hid (S12.out.below P11.out.agree (below_alloc w11 (tbox rt ra rc)))
                  have OW12 := Lib.hid (OW11.out.alloc (tbox rt ra rc))
                  clear hinv X11 R11 S11' S12 OW11 P11 P10 S11 B10 OW10 p0 p1 p2 p3 p4 p5 p6 p7 p8
                  obtain ⟨nq, hnq⟩ : ∃ n, n = wr.heap.size := ⟨_, rfl⟩
                  have S13 := Lib.hid (show StAt H11 (w11.alloc (tbox rt ra rc)) (fun k => (w4.heap.size ≤ k ∧ k < w8.heap.size) ∨ nq ≤ k) w4.heap.size rS by rw [hnq]; exact S13.out)
                  clear hnq
                  go_wp2_with fail
                  go_loopw [21, 22, 23] (fun i _ _ wr => ∃ (j : Nat), j ≤ levels.length ∧ i = .int .i64 j ∧ Pure H w H11 wr ∧ StAt H11 wr (fun k => (w4.heap.size ≤ k ∧ k < w8.heap.size) ∨ nq ≤ k) w4.heap.size rS ∧ Own H11 wr w8.heap.size 4 1 BoolP (.slice (some ⟨w8.heap.size, 0, none⟩) levels.length levels.length) (InAt levels.length V)) (fun i _ _ _ => levels.length - (intOf i).toNat)
                  case atStart => exact ⟨0, Nat.zero_le _, rfl, P12.out, S13.out, OW12.out⟩
                  case round =>
                    obtain ⟨j, hj, rfl, PR, SR, own⟩ := hrel
                    by_cases hlt : j < levels.length
                    · obtain ⟨v, hv1⟩ : ∃ v, levels[j]? = some v := ⟨_, List.getElem?_eq_getElem hlt⟩
                      obtain ⟨y, hy1, hy2, hy3⟩ := hok.out.1 j v hv1
                      obtain ⟨lb, lo, ics, hla, -, ⟨rfl, hv64⟩, hcell⟩ := HL.out.get hv1
                      subst hla
                      have hinf := Lib.hid (store_Info H11 wr w4.heap.size rS j SR)
                      dsimp only at hy1
                      rw [hy1] at hinf
                      have hkl : j < (InAt levels.length V).length := by unfold InAt; simp; omega
                      have hy : (InAt levels.length V)[j]? = some (decide ((j : Int) ∈ V)) := by unfold InAt; simp [hlt]
                      obtain ⟨g', gc, bcs, hvv', -, rfl, hcell2, hfz, -, -, hgw⟩ := own.get (fun _ _ h => by rw [h]; rfl) hy
                      injection hvv' with e1 e2 e3
                      injection e1 with e1
                      injection e1 with e1
                      subst e1
                      have HC := Lib.hid (PR.agree.cell (GH.cell?_mono PR.sub (hcell 0 _ rfl)))
                      have HD := Lib.hid (hcell2 0 _ rfl)
                      have hbl := World.block_lt_of_cell? wr _ HC.out
                      have hgw' := hgw
                      have HPR := Lib.hid PR
                      have HSR := Lib.hid SR
                      have HOW := Lib.hid own
                      have HY2 := Lib.hid hy2
                      have HY3 := Lib.hid hy3
                      clear hcell hcell2 hfz hy hy1 hy2 hy3 hv1 PR SR own e2 e3
                      go_wp2_with fail
                      refine hinf.out.mono ?_
                      rintro e w13 ⟨yics, rfl, hb13, hRI⟩
                      obtain ⟨tcs, rfl, hR1, hlv⟩ := hRI
                      obtain ⟨ia, ic, rfl, -, -, -, -⟩ := hR1.open_
                      have P14 := Lib.hid ((HPR.out.then_below hb13).alloc (.cells #[.int .i64 y.lv, .bool y.bd, .int .i64 y.vl.k, .string y.vl.s, .int .i64 y.vl.n, .slice ia y.vl.l.length ic] 37 (0, 0)))
                      have S14 := Lib.hid ((HSR.out.below HPR.out.agree hb13).below (HPR.out.then_below hb13).agree (below_alloc w13 (.cells #[.int .i64 y.lv, .bool y.bd, .int .i64 y.vl.k, .string y.vl.s, .int .i64 y.vl.n, .slice ia y.vl.l.length ic] 37 (0, 0))))
                      have O14 := Lib.hid ((HOW.out.below hb13).alloc (.cells #[.int .i64 y.lv, .bool y.bd, .int .i64 y.vl.k, .string y.vl.s, .int .i64 y.vl.n, .slice ia y.vl.l.length ic] 37 (0, 0)))
                      have BI := Lib.hid (heap_alloc_new w13 (.cells #[.int .i64 y.lv, .bool y.bd, .int .i64 y.vl.k, .string y.vl.s, .int .i64 y.vl.n, .slice ia y.vl.l.length ic] 37 (0, 0)))
                      have hbA := hb13.trans ((below_alloc w13 (.cells #[.int .i64 y.lv, .bool y.bd, .int .i64 y.vl.k, .string y.vl.s, .int .i64 y.vl.n, .slice ia y.vl.l.length ic] 37 (0, 0))).mono hb13.size)
                      have c0 := ((bcell hbA).1 _ _ hbl).trans HC.out
                      have d0 := ((bcell hbA).1 _ _ hgw').trans HD.out
                      simp only [Nat.add_zero, Nat.mul_one] at c0 d0
                      have hbl2 : lb < w13.heap.size := Nat.lt_of_lt_of_le hbl hb13.size
                      have hgw2 : w8.heap.size < w13.heap.size := Nat.lt_of_lt_of_le hgw' hb13.size
                      have HBA := Lib.hid (And.intro hbl hgw')
                      clear hinf hR1 hbl hgw' hgw hb13 hbA HPR HSR HOW
                      go_upto_region 26 with fail
                      generalize hW14 : w13.alloc (.cells #[.int .i64 y.lv, .bool y.bd, .int .i64 y.vl.k, .string y.vl.s, .int .i64 y.vl.n, .slice ia y.vl.l.length ic] 37 (0, 0)) = W14 at *
                      have hW14s : W14.heap.size = w13.heap.size + 1 := by rw [← hW14]; simp
                      clear hW14
                      obtain ⟨i0, i1, i2, i3, i4, i5, i6⟩ := box6 BI.out
                      have hbl3 : lb < W14.heap.size := by omega
                      have hgw3 : w8.heap.size < W14.heap.size := by omega
                      have hjI : (j : Int) < (levels.length : Int) := by omega
                      have fin : Hid (∀ wz, Below W14.heap.size W14 wz → Pure H w H11 wz ∧ StAt H11 wz (fun k => (w4.heap.size ≤ k ∧ k < w8.heap.size) ∨ nq ≤ k) w4.heap.size rS ∧ Own H11 wz w8.heap.size 4 1 BoolP (.slice (some ⟨w8.heap.size, 0, none⟩) levels.length levels.length) (InAt levels.length V)) := Lib.hid (fun wz hb => ⟨P14.out.then_below hb, S14.out.below P14.out.agree hb, O14.out.below hb⟩)
                      have hlv2 := HY2.out
                      unfold St.top0 at hlv2
                      cases hbd : y.bd with
                      | false =>
                        rw [hbd] at i2
                        by_cases hv0 : v < 0
                        · rw [if_pos hv0] at hlv2
                          rw [hlv2] at i1
                          go_quiet (fail)
                          go_wp2_with fail
                          go_roundw
                          case rel => exact ⟨j + 1, by omega, by go_num, fin.out _ (below_drewN (Below.refl _ _) _)⟩
                          case measure => simp [intOf]; omega
                        · rw [if_neg hv0] at hlv2
                          rw [hlv2] at i1
                          go_quiet (fail)
                          go_wp2_with fail
                          go_roundw
                          case rel => exact ⟨j + 1, by omega, by go_num, fin.out _ (below_drewN (Below.refl _ _) _)⟩
                          case measure => simp [intOf]; omega
                      | true =>
                        rw [hbd] at i2
                        have hin := HY3.out hbd
                        have hinV : (j : Int) ∈ V := by rw [← HV.out]; exact hin.1
                        rw [decide_eq_true hinV] at d0
                        clear hinV
                        have hnx : ((j : Int) == x) = false := beq_eq_false_iff_ne.2 hin.2
                        clear hin
                        by_cases hv0 : v < 0
                        · rw [if_pos hv0] at hlv2
                          rw [hlv2] at i1
                          go_quiet (fail)
                          go_wp2_with fail
                          go_roundw
                          case rel => exact ⟨j + 1, by omega, by go_num, fin.out _ (below_drewN (Below.refl _ _) _)⟩
                          case measure => simp [intOf]; omega
                        · rw [if_neg hv0] at hlv2
                          rw [hlv2] at i1
                          go_quiet (fail)
                          go_wp2_with fail
                          go_roundw
                          case rel => exact ⟨j + 1, by omega, by go_num, fin.out _ (below_drewN (Below.refl _ _) _)⟩
                          case measure => simp [intOf]; omega
                    · have hd5 : decide ((j : Int) < (levels.length : Int)) = false := decide_eq_false (by omega)
                      have HPB := Lib.hid PR.below
                      clear PR SR own
                      have hn := hok.out.2
                      dsimp only at hn
                      by_cases hre : re = 0
                      · have hn1 := hn.1 hre
                        subst hre
                        clear hn
                        go_wp2_with fail
                        go_ret
                        exact ⟨rfl, HPB.out⟩
                      · have hn2 := hn.2 hre
                        have hre' : (re == 0) = false := beq_eq_false_iff_ne.2 hre
                        have hre2 : (re != 0) = true := by rw [bne, hre']; rfl
                        have HRE := Lib.hid hre
                        subst hn2
                        clear hn hre
                        go_wp2_with fail
                        go_ret
                        exact ⟨ret_bool (by have := HRE.out; simp [this]), HPB.out⟩
end Go.Proofs.Ytbdappbmlnpogaa
