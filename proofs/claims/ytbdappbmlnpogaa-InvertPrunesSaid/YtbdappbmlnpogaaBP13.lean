/- The law InvertOthers, walked. The document's tests on texts: they answer, whatever it is. The document's tests on terms: Valid, LooseAt: they answer, whatever it is. The document's LooseAt: it answers, whatever it is. The document's store in memory: Fresh; the pieces of Bind. The law's: over (rows of variables that are laid), laid (two stores). -/
import Derived.Test.YtbdappbmlnpogaaBP12
import Derived.OwnWalk
namespace Go.Proofs.Ytbdappbmlnpogaa
open Go Go.RowKit
set_option maxRecDepth 100000
theorem rep_leaves {H : GH} (t : Tm) : ∀ (cs : List Value) (d : Int), Rep H t cs → ∀ p ∈ t.leaves d, I64 p.1.n := by
  induction t using Tm.ind with
  | h k s n l ih =>
    intro cs d hR p hp
    rw [Tm.leaves] at hp
    split at hp
    · have hm : ∃ x ∈ l, p ∈ x.leaves (d + if k = 5 then 1 else 0) := by
        revert hp
        generalize (d + if k = 5 then 1 else 0) = D
        clear ih hR
        intro hp
        induction l with
        | nil => rw [Tm.leavesL] at hp; cases hp
        | cons x xs ihx =>
          rw [Tm.leavesL] at hp
          rcases List.mem_append.1 hp with hp | hp
          · exact ⟨x, by simp, hp⟩
          · obtain ⟨y, hy, h⟩ := ihx hp
            exact ⟨y, by simp [hy], h⟩
      obtain ⟨x, hx, hp⟩ := hm
      obtain ⟨i, hi⟩ := List.getElem?_of_mem hx
      obtain ⟨a, cap, rfl, -, -, -, hl⟩ := hR.open_
      obtain ⟨b, o, xs, -, -, hRx, -⟩ := hl.get hi
      exact ih x hx xs _ hRx p hp
    · have : p = (Tm.mk k s n l, d) := by simpa using hp
      subst this
      exact hR.open_.choose_spec.choose_spec.2.2.1
/-- So many variables, all free. -/
def FreeS (levels : List Int) : St := ⟨levels.map (fun v => ⟨St.top0 v, false, Tm.zero⟩), []⟩
theorem free_step (levels : List Int) (j : Nat) (v : Int) (h : levels[j]? = some v) : (FreeS (levels.take j)).fresh v = FreeS (levels.take (j + 1)) := by
  unfold FreeS St.fresh
  rw [List.take_add_one, h]
  simp
theorem free_ok (levels : List Int) (M : Nat) (B : Int) (hM : 4097 ≤ M) : (FreeS levels).Ok M B := ⟨hM, fun i hi hb => by
  unfold FreeS at hi
  obtain ⟨v, -, rfl⟩ := List.mem_map.1 hi
  cases hb⟩
/-- What the law says of an inversion among free variables. -/
def OthersOk (levels : List Int) (x : Int) (t : Tm) (r : (Tm × Int × Int) × St) : Prop :=
  (∀ (i : Nat) (v : Int), levels[i]? = some v → ∃ y, r.2.info i = (y, true) ∧ y.lv = St.top0 v ∧ (y.bd = true → (i : Int) ∈ t.vars ∧ (i : Int) ≠ x)) ∧ (r.1.2.2 = 0 → r.1.2.1 ≤ 80) ∧ (r.1.2.2 ≠ 0 → r.1.2.1 = 0)
def InAt (n : Nat) (vs : List Int) : List Bool := (List.range n).map (fun (i : Nat) => decide ((i : Int) ∈ vs))
theorem inAt_set (n : Nat) (vs : List Int) (v : Int) (k : Nat) (hv : v = k) : (InAt n vs).set k true = InAt n (vs ++ [v]) := by
  apply List.ext_getElem?
  intro i
  unfold InAt
  rw [List.getElem?_set]
  by_cases hi : i < n
  · by_cases e : k = i
    · subst e; subst hv; simp [hi]
    · have e2 : ¬ ((i : Int) = v) := by omega
      simp [e, hi, e2]
  · by_cases e : k = i
    · subst e; simp [hi]
    · simp [e, hi]
theorem inAt_far (n : Nat) (vs : List Int) (v : Int) (hv : (n : Int) ≤ v) : InAt n vs = InAt n (vs ++ [v]) := by
  unfold InAt
  apply List.map_congr_left
  intro i hi
  have hi := List.mem_range.1 hi
  have e2 : ¬ ((i : Int) = v) := by omega
  simp [e2]
theorem isSl_bools : IsSl Try.prog 23 4 1 1 := isSl_of (z := .bool false) Try.underlying23 (by kernel_rfl) rfl (by decide)
theorem vars_mem (L : List (Tm × Int)) (v : Int) : ∀ acc : List Int, v ∈ L.foldl Tm.varsStep acc ↔ v ∈ acc ∨ ∃ p ∈ L, p.1.k = 4 ∧ p.1.n = v := by
  induction L with
  | nil => intro acc; simp
  | cons q qs ih =>
    intro acc
    rw [List.foldl_cons, ih]
    have hst : v ∈ Tm.varsStep acc q ↔ v ∈ acc ∨ (q.1.k = 4 ∧ q.1.n = v) := by
      unfold Tm.varsStep
      split
      · rename_i hc
        simp only [List.mem_append, List.mem_singleton]
        constructor
        · rintro (h | h)
          · exact .inl h
          · exact .inr ⟨hc.1, h.symm⟩
        · rintro (h | h)
          · exact .inl h
          · exact .inr h.2.symm
      · rename_i hc
        constructor
        · exact .inl
        · rintro (h | h)
          · exact h
          · by_cases hm : q.1.n ∈ acc
            · rw [← h.2]; exact hm
            · exact absurd ⟨h.1, hm⟩ hc
    rw [hst]
    constructor
    · rintro ((h | h) | ⟨p, hp, h⟩)
      · exact .inl h
      · exact .inr ⟨q, by simp, h⟩
      · exact .inr ⟨p, by simp [hp], h⟩
    · rintro (h | ⟨p, hp, h⟩)
      · exact .inl (.inl h)
      · rcases List.mem_cons.1 hp with rfl | hp
        · exact .inl (.inr h)
        · exact .inr ⟨p, hp, h⟩
theorem vars_iff (t : Tm) (v : Int) : v ∈ t.vars ↔ ∃ p ∈ t.leaves 0, p.1.k = 4 ∧ p.1.n = v := by
  unfold Tm.vars
  rw [vars_mem]
  simp
theorem vars_nn {t : Tm} (hv : t.valid = true) : ∀ v ∈ t.vars, 0 ≤ v := by
  intro v h
  obtain ⟨p, hp, hk, rfl⟩ := (vars_iff t v).1 h
  obtain ⟨h1, h2, -⟩ := Tm.leaves_valid t 0 hv p hp
  obtain ⟨⟨k, s, n, l⟩, d⟩ := p
  dsimp only at hk h1 ⊢
  simp only [Tm.k_mk] at hk
  subst hk
  have := ((Tm.valid_iff ..).1 h1).1
  unfold Tm.ok1 at this
  simp at this
  simp only [Tm.n_mk]
  omega
theorem others_ask (levels : List Int) (x : Int) (l : List Tm) (t : Tm) (h8 : levels.length ≤ 8) (h6 : l.length ≤ 6) (hv : t.valid = true) (hs : t.size ≤ 24) (hb : t.bnd 1000 = true) : Ask ⟨x, ((FreeS levels).info x).1.lv, l⟩ 4097 ⟨FreeS levels, 80, 0⟩ t DB :=
  ⟨free_ok _ _ _ (Nat.le_refl _), by dsimp only; omega, by dsimp only; decide, hv, Tm.bnd_mono (by decide) t hb, Int.le_refl _, by have : SB = 1073741824 := rfl; dsimp only; omega, by dsimp only; decide, by unfold FreeS; simp; omega, by unfold FreeS; simp⟩
theorem info_bool : ∃ i, (Try.prog).info? 4 = some i ∧ i.zero = some (.bool false) ∧ i.size = 1 ∧ i.bytes = 1 := info_parts (by rfl)
theorem own_falses {H : GH} {w9 : World} {base n : Nat} {v : Value} (hA : ∀ g, v.ownBlock = some g → H g = none) (h : w9.ownsRow base 4 1 v n (madeCells (Value.bool false).cells (n * 1)).toList) : Own H w9 base 4 1 BoolP v (InAt n []) := by
  have e : (madeCells (Value.bool false).cells (n * 1)).toList = List.replicate n (.bool false) := by rw [Nat.mul_one]; exact toList_madeCells_one _ _
  rw [e] at h
  have hl : (InAt n []).length = n := by unfold InAt; simp
  refine ⟨List.replicate n (.bool false), by rw [hl]; exact h, hA, fun i x hi => ?_⟩
  have hin := (List.getElem?_eq_some_iff.1 hi).1
  rw [hl] at hin
  have hx : x = false := by
    unfold InAt at hi
    simp [List.getElem?_range, hin] at hi
    exact hi
  subst hx
  unfold BoolP
  rw [Nat.mul_one, List.drop_replicate, List.take_replicate, show min 1 (n - i) = 1 by omega]
  rfl
set_option maxHeartbeats 16000000 in
theorem law_InvertOthers (H : GH) (w : World) (levels : List Int) (vL : Value) (x : Int) (l : List Tm) (vl : Value) (t : Tm) (cs : List Value) (hA : Agree H w) (hL : Ints H vL levels) (hx : I64 x) (hK : Tms H vl l) (hR : Rep H t cs)
    (hplain : t.valid = true → levels.length ≤ 8 → l.length ≤ 6 → t.size ≤ 24 → t.bnd 1000 = true → OthersOk levels x t ((FreeS levels).invert x l t 80)) :
    Calls Try.prog 4 #[vL, .int .i64 x, vl, .agg cs.toArray] w fun e w' => e = .returned (.bool true) ∧ Below w.heap.size w w' := by
  have HR := Lib.hid hR
  obtain ⟨a, cap, rfl, -, -, -, -⟩ := hR.open_
  obtain ⟨La, Lc, rfl, hLl, hLm⟩ := hL.form
  obtain ⟨ka, kc, rfl, hkl, hkm⟩ := hK.form
  unfold maxLen at hLm
  have A0 := Lib.hid (hA.alloc (tbox t a cap))
  have B0 := Lib.hid (heap_alloc_new w (tbox t a cap))
  have P0 := Lib.hid ((Ext.refl (O := fun _ => False) hA).alloc (tbox t a cap))
  have hwk := Lib.hid (law_works H _ A0.out)
  have HP := Lib.hid hplain
  have HL := Lib.hid hL
  have HK := Lib.hid hK
  clear hL hK hR hplain
  go_enter Try.func4, Try.ntmps4
  go_wp2_with fail
  refine hwk.out.mono ?_
  rintro e w1 ⟨rfl, hb1⟩
  have P1 := Lib.hid (P0.out.then_below hb1)
  have B1 := Lib.hid (Below.blk hb1 B0.out)
  have hrow := Lib.hid (law_row H w1 _ l P1.out.agree HK.out)
  clear hwk hb1 P0 B0 A0
  go_wp2_with fail
  refine hrow.out.mono ?_
  rintro e w2 ⟨b1, rfl, hb2, hrow1⟩
  have P2 := Lib.hid (P1.out.then_below hb2)
  have B2 := Lib.hid (Below.blk hb2 B1.out)
  have HR1 := Lib.hid hrow1
  have hz2 : w.heap.size < w2.heap.size := cell_lt B2.out
  have hn2 : H w2.heap.size = none := hA.free (by omega)
  have P2a := Lib.hid (P2.out.alloc (tbox t a cap))
  obtain ⟨s1, a1, t1⟩ := box_tms P2a.out.agree HR.out (heap_alloc_new w2 (tbox t a cap)) hn2
  have P3 := Lib.hid (P2a.out.put (heap_alloc_new w2 (tbox t a cap)) hn2 (by omega))
  have hrow2 := Lib.hid (law_row (H.put w2.heap.size (tbox t a cap)) _ _ [t] a1 t1)
  have HS1 := Lib.hid s1
  obtain ⟨p0, p1, p2, p3, p4, p5, p6, p7, p8⟩ := box4 B2.out
  clear hrow hb2 hrow1 t1 a1 s1 P2a
  go_wp2_with fail
  refine hrow2.out.mono ?_
  rintro e w3 ⟨b2, rfl, hb3, hrow3⟩
  have P4 := Lib.hid (P3.out.then_below hb3)
  have B3 := Lib.hid (Below.blk hb3 (Below.blk (below_alloc w2 (tbox t a cap)) B2.out))
  have HR2 := Lib.hid hrow3
  have hvd := Lib.hid (term_Valid t _ _ w3 (HR.out.mono HS1.out) P4.out.agree)
  obtain ⟨p0, p1, p2, p3, p4, p5, p6, p7, p8⟩ := box4 B3.out
  clear hrow2 hb3 hrow3 P3
  go_wp2_with fail
  refine hvd.out.mono ?_
  generalize hvv : t.valid = vv at *
  rintro e w4 ⟨rfl, hb4⟩
  have P5 := Lib.hid (P4.out.then_below hb4)
  have B4 := Lib.hid (Below.blk hb4 B3.out)
  clear hvd hb4 p0 p1 p2 p3 p4 p5 p6 p7 p8 P4 B3 B2 P2 B1 P1
  cases b1 with
  | true =>
    go_wp2_with fail
    go_ret
    exact ⟨rfl, P5.out.below⟩
  | false =>
    cases b2 with
    | true =>
      go_wp2_with fail
      go_ret
      exact ⟨rfl, P5.out.below⟩
    | false =>
      cases vv with
      | false =>
        go_wp2_with fail
        go_ret
        exact ⟨rfl, P5.out.below⟩
      | true =>
        by_cases h8 : 8 < (levels.length : Int)
        · go_wp2_with fail
          go_ret
          exact ⟨rfl, P5.out.below⟩
        · have hd8 : decide (8 < (levels.length : Int)) = false := decide_eq_false h8
          have hv := Lib.hid hvv
          have hsm := Lib.hid ((HR2.out rfl).2 t (by simp))
          have hl6 := (HR1.out rfl).1
          have hok := Lib.hid (HP.out rfl (by omega) hl6 hsm.out.1 hsm.out.2)
          generalize hH5 : H.put w2.heap.size (tbox t a cap) = H5 at *
          clear hvv HP HR1 HR2 hH5
          have hnew := Lib.hid (store_New H5 w4 P5.out.agree)
          go_wp2_with fail
          refine hnew.out.mono ?_
          rintro e w5 ⟨rfl, X5, S5⟩
          have P6 := Lib.hid (P5.out.then X5)
          have B5 := Lib.hid (Below.blk X5.below B4.out)
          have hz4 : w.heap.size < w4.heap.size := cell_lt B4.out
          have S6 := Lib.hid (S5.mono (F' := fun k => w4.heap.size ≤ k) (fun k hk => by omega))
          clear hnew X5 S5
          go_wp2_with fail
          have hLN : (levels.length : Int) ≤ 8 := by omega
          have HZ4 := Lib.hid hz4
          go_loopw [14] (fun i wr => ∃ (j : Nat), j ≤ levels.length ∧ i = .int .i64 j ∧ Pure H w H5 wr ∧ wr.heap[w.heap.size]? = some (tbox t a cap) ∧ StAt H5 wr (fun k => w4.heap.size ≤ k) w4.heap.size (FreeS (levels.take j))) (fun i _ => levels.length - (intOf i).toNat)
          case atStart => exact ⟨0, Nat.zero_le _, rfl, P6.out, B5.out, S6.out⟩
          case round =>
            obtain ⟨j, hj, rfl, P7, B7, S7⟩ := hrel
            by_cases hlt : j < levels.length
            · obtain ⟨v, hv1⟩ : ∃ v, levels[j]? = some v := ⟨_, List.getElem?_eq_getElem hlt⟩
              obtain ⟨lb, lo, ics, rfl, -, ⟨rfl, hv64⟩, hcell⟩ := HL.out.get hv1
              have c0 := P7.agree.cell (GH.cell?_mono P7.sub (hcell 0 _ rfl))
              simp only [Nat.add_zero, Nat.mul_one] at c0
              have hbl := World.block_lt_of_cell? wr _ c0
              have hfr := Lib.hid (store_Fresh H5 wr w4.heap.size (FreeS (levels.take j)) v P7.agree S7.tight hv64 (by unfold FreeS; simp; omega))
              have HST := Lib.hid (free_step levels j v hv1)
              have HP7 := Lib.hid P7
              have HB7 := Lib.hid B7
              have hzr : w4.heap.size < wr.heap.size := S7.lt
              have HZR := Lib.hid hzr
              clear hcell hv1 P7 B7 S7 hzr
              go_wp2_with fail
              refine hfr.out.mono ?_
              rintro e w8 ⟨rfl, X8, S8⟩
              rw [HST.out] at S8
              have P8 := Lib.hid (HP7.out.trans X8 (fun k hk hlt => by have := hk.1; have := HZ4.out; omega))
              have B8 := Lib.hid ((X8.block w.heap.size (cell_lt HB7.out) (fun h => by have := h.1; have := HZ4.out; omega)).trans HB7.out)
              have S9 := Lib.hid (S8.mono (F' := fun k => w4.heap.size ≤ k) (fun k hk => hk.elim (fun h => h.1) (fun h => by have := HZR.out; omega)))
              clear hfr X8 S8
              go_wp2_with fail
              go_roundw
              case rel => exact ⟨j + 1, by omega, by go_num, P8.out, B8.out, S9.out⟩
              case measure => simp [intOf]; omega
            · have hjl : levels.take j = levels := List.take_of_length_le (by omega)
              rw [hjl] at S7
              have hd3 : decide ((j : Int) < (levels.length : Int)) = false := decide_eq_false (by omega)
              have hsz := hsm.out.1
              have hvars := Lib.hid (term_Vars t _ H5 wr (rep_leaves t _ 0 (HR.out.mono P7.sub)) (by unfold LB; omega) P7.agree (HR.out.mono P7.sub))
              have HP7 := Lib.hid P7
              have HB7 := Lib.hid B7
              have HS7 := Lib.hid S7
              obtain ⟨p0, p1, p2, p3, p4, p5, p6, p7, p8⟩ := box4 B7
              clear hjl P7 B7 S7 hsz
              go_wp2_with fail
              refine hvars.out.mono ?_
              rintro e w8 ⟨H8, vv, rfl, hI8, X8⟩
              have P8 := Lib.hid (HP7.out.then X8)
              have B8 := Lib.hid (Below.blk X8.below HB7.out)
              have S8 := Lib.hid (HS7.out.pure X8)
              have HI := Lib.hid hI8
              obtain ⟨va, vc, rfl, hvl, hvm⟩ := hI8.form
              unfold maxLen at hvm
              clear hvars X8 hI8 p0 p1 p2 p3 p4 p5 p6 p7 p8
              obtain ⟨bi, hbi'⟩ := info_bool
              have hbi := Lib.hid hbi'
              clear hbi'
              go_wp2_with (at_make; refine wpList_make_full _ rfl _ _ _ rfl w8.heap.size 4 bi (.bool false) 1 Try.underlying23 hbi.out.1 hbi.out.2.1 hbi.out.2.2.1 .i64 .i64 _ _ levels.length rfl rfl rfl rfl (by rw [hbi.out.2.2.2]; omega) (by unfold maxLen; omega) (Nat.le_refl _) ?_; intro w9 hown hg9)
              have hown2 := own_falses (H := H8) (fun g hg => by simp [Value.ownBlock] at hg; subst hg; exact P8.out.agree.free (Nat.le_refl _)) hown
              have P9 := Lib.hid (P8.out.grown hg9 (fun g hg => by cases hg) (fun g hg => by cases hg))
              have B9 := Lib.hid ((hg9.block w.heap.size (cell_lt B8.out) (fun h => by cases h)).trans B8.out)
              have X9 : Pure H8 w8 H8 w9 := (Ext.refl P8.out.agree).grown hg9 (fun g hg => by cases hg) (fun g hg => by cases hg)
              have S9 := Lib.hid (S8.out.pure X9)
              have OW := Lib.hid hown2
              have hlen : (InAt levels.length []).length = levels.length := by unfold InAt; simp
              have hz9 : w8.heap.size < w9.heap.size := (hown2.lt _ rfl).2
              have HZ8 := Lib.hid S8.out.lt
              have HZ9 := Lib.hid hz9
              clear hown hg9 hown2 hlen hz9 hbi
              have X9' := X9
              clear X9
              go_wp2_with fail
              have S10 := Lib.hid (S8.out.tight.pure X9')
              have hvn := Lib.hid (vars_nn hv.out)
              have HSM := Lib.hid (And.intro hl6 (And.intro hsm.out hv.out))
              have hvN : (t.vars.length : Int) ≤ 9223372036854775807 := by omega
              generalize hV : t.vars = V at *
              have HV := Lib.hid hV
              clear hV
              go_loopw [17] (fun i wr => ∃ (j : Nat), j ≤ V.length ∧ i = .int .i64 j ∧ Ext (fun k => k = w8.heap.size) H8 w9 H8 wr ∧ Own H8 wr w8.heap.size 4 1 BoolP (.slice (some ⟨w8.heap.size, 0, none⟩) levels.length levels.length) (InAt levels.length (V.take j))) (fun i _ => V.length - (intOf i).toNat)
              case atStart => exact ⟨0, Nat.zero_le _, rfl, Ext.refl P9.out.agree, by simpa using OW.out⟩
              case round =>
                obtain ⟨j, hj, rfl, PR, own⟩ := hrel
                have HPR := Lib.hid PR
                have HOWN := Lib.hid own
                by_cases hlt : j < V.length
                · obtain ⟨v, hv1⟩ : ∃ v, V[j]? = some v := ⟨_, List.getElem?_eq_getElem hlt⟩
                  have hv0 := hvn v (List.mem_of_getElem? hv1)
                  obtain ⟨b, o, ics, rfl, -, ⟨rfl, hv64⟩, hcell⟩ := HI.out.get hv1
                  have c0 := PR.agree.cell (hcell 0 _ rfl)
                  simp only [Nat.add_zero, Nat.mul_one] at c0
                  have hbl := World.block_lt_of_cell? wr _ c0
                  have htk : Hid (V.take (j + 1) = V.take j ++ [v]) := Lib.hid (by rw [List.take_add_one, hv1]; rfl)
                  by_cases hvl : v < (levels.length : Int)
                  · obtain ⟨k, rfl⟩ : ∃ k : Nat, v = k := ⟨v.toNat, by omega⟩
                    have hkl : k < (InAt levels.length (V.take j)).length := by unfold InAt; simp; omega
                    obtain ⟨y, hy⟩ : ∃ y, (InAt levels.length (V.take j))[k]? = some y := ⟨_, List.getElem?_eq_getElem hkl⟩
                    obtain ⟨g', gc, bcs, hvv', -, rfl, hcell2, hfz, -, -, hgw⟩ := own.get (fun _ _ h => by rw [h]; rfl) hy
                    injection hvv' with e1 e2 e3
                    injection e1 with e1
                    injection e1 with e1
                    subst e1
                    have d0 := hcell2 0 _ rfl
                    have f0 := hfz k
                    simp only [Nat.add_zero, Nat.mul_one] at d0
                    have OS := own.set rfl hkl (y := true) (vs := [.bool true]) rfl rfl
                    rw [inAt_set _ _ _ _ rfl, ← htk.out] at OS
                    have HOS := Lib.hid (show Own H8 (wr.setCell ⟨w8.heap.size, k, none⟩ (.bool true)) w8.heap.size 4 1 BoolP (.slice (some ⟨w8.heap.size, 0, none⟩) levels.length levels.length) (InAt levels.length (V.take (j + 1))) by rw [Nat.mul_one] at OS; exact OS)
                    have PS := Lib.hid (PR.setCell (p := ⟨w8.heap.size, k, none⟩) (own.free _ rfl) (fun _ => rfl) (.bool true))
                    clear hcell hcell2 hfz OS hy PR own hv1 e2 e3
                    go_wp2_with fail
                    go_roundw
                    case rel => exact ⟨j + 1, by omega, by go_num, PS.out, HOS.out⟩
                    case measure => simp [intOf]; omega
                  · have hdv : decide (v < (levels.length : Int)) = false := decide_eq_false hvl
                    have hfar := Lib.hid (inAt_far levels.length (V.take j) v (by omega))
                    clear hcell PR own hv1
                    go_wp2_with fail
                    go_roundw
                    case rel => exact ⟨j + 1, by omega, by go_num, HPR.out, by rw [htk.out, ← hfar.out]; exact HOWN.out⟩
                    case measure => simp [intOf]; omega
                · have hjl : V.take j = V := List.take_of_length_le (by omega)
                  rw [hjl] at own
                  have hd4 : decide ((j : Int) < (V.length : Int)) = false := decide_eq_false (by omega)
                  have hz8 := HZ8.out
                  have hz4' := HZ4.out
                  have P10 := Lib.hid (P9.out.trans PR (fun k hk hlt => by have := P8.out.size; omega))
                  have S11 := Lib.hid (S10.out.ext PR (fun k hk hF => by have := hF.2; omega))
                  have B10 := Lib.hid ((PR.block w.heap.size (cell_lt B9.out) (by omega)).trans B9.out)
                  have OW10 := Lib.hid own
                  have hwr := Lib.hid (Nat.lt_of_lt_of_le HZ9.out PR.size)
                  have hinv := Lib.hid (invert_Invert H8 wr w4.heap.size (FreeS levels) 4097 DB x l _ t _ 80 P10.out.agree S11.out hx (HK.out.mono P10.out.sub) (by omega) (HR.out.mono P10.out.sub) (by unfold I64; omega) (fun hvv => others_ask levels x l t (by omega) HSM.out.1 hvv HSM.out.2.1.1 HSM.out.2.1.2))
                  obtain ⟨p0, p1, p2, p3, p4, p5, p6, p7, p8⟩ := box4 B10.out
                  clear hjl PR own HPR HOWN S10 P9 B9 OW S9 hvn
                  go_wp2_with fail
                  refine hinv.out.mono ?_
                  unfold InvertPost
                  generalize hrr : (FreeS levels).invert x l t 80 = r at *
                  obtain ⟨⟨rt, rn, re⟩, rS⟩ := r
                  rintro e w11 ⟨H11, rcs, rfl, X11, R11, S11'⟩
                  dsimp only at R11 S11'
                  have hzw := hwr.out
                  have P11 := Lib.hid (P10.out.trans X11 (fun k hk hlt => by have := hk.1; omega))
                  have S12 := Lib.hid S11'
                  have OW11 := Lib.hid (OW10.out.ext X11 (fun g hg hF => by
                    have hgg : g = w8.heap.size := by simp [Value.ownBlock] at hg; exact hg.symm
                    subst hgg
                    have := hF.2; omega) (fun _ _ h => h))
                  obtain ⟨ra, rc, rfl, -, -, -, -⟩ := R11.open_
                  have P12 := Lib.hid (P11.out.alloc (tbox rt ra rc))
                  have S13 := Lib.hid (S12.out.below P11.out.agree (below_alloc w11 (tbox rt ra rc)))
                  have OW12 := Lib.hid (OW11.out.alloc (tbox rt ra rc))
                  clear hinv X11 R11 S11' S12 OW11 P11 P10 S11 B10 OW10 p0 p1 p2 p3 p4 p5 p6 p7 p8
                  obtain ⟨nq, hnq⟩ : ∃ n, n = wr.heap.size := ⟨_, rfl⟩
                  have S13 := Lib.hid (show StAt H11 (w11.alloc (tbox rt ra rc)) (fun k => (w4.heap.size ≤ k ∧ k < w8.heap.size) ∨ nq ≤ k) w4.heap.size rS by rw [hnq]; exact S13.out)
                  clear hnq
                  go_wp2_with fail
                  go_loopw [21, 22, 23] (fun i _ _ wr => ∃ (j : Nat), j ≤ levels.length ∧ i = .int .i64 j ∧ Pure H w H11 wr ∧ StAt H11 wr (fun k => (w4.heap.size ≤ k ∧ k < w8.heap.size) ∨ nq ≤ k) w4.heap.size rS ∧ Own H11 wr w8.heap.size 4 1 BoolP (.slice (some ⟨w8.heap.size, 0, none⟩) levels.length levels.length) (InAt levels.length V)) (fun i _ _ _ => levels.length - (intOf i).toNat)
                  case atStart => exact ⟨0, Nat.zero_le _, rfl, P12.out, S13.out, OW12.out⟩
                  case round =>
                    obtain ⟨j, hj, rfl, PR, SR, own⟩ := hrel
                    by_cases hlt : j < levels.length
                    · obtain ⟨v, hv1⟩ : ∃ v, levels[j]? = some v := ⟨_, List.getElem?_eq_getElem hlt⟩
                      obtain ⟨y, hy1, hy2, hy3⟩ := hok.out.1 j v hv1
                      obtain ⟨lb, lo, ics, hla, -, ⟨rfl, hv64⟩, hcell⟩ := HL.out.get hv1
                      subst hla
                      have hinf := Lib.hid (store_Info H11 wr w4.heap.size rS j SR)
                      dsimp only at hy1
                      rw [hy1] at hinf
                      have hkl : j < (InAt levels.length V).length := by unfold InAt; simp; omega
                      have hy : (InAt levels.length V)[j]? = some (decide ((j : Int) ∈ V)) := by unfold InAt; simp [hlt]
                      obtain ⟨g', gc, bcs, hvv', -, rfl, hcell2, hfz, -, -, hgw⟩ := own.get (fun _ _ h => by rw [h]; rfl) hy
                      injection hvv' with e1 e2 e3
                      injection e1 with e1
                      injection e1 with e1
                      subst e1
                      have HC := Lib.hid (PR.agree.cell (GH.cell?_mono PR.sub (hcell 0 _ rfl)))
                      have HD := Lib.hid (hcell2 0 _ rfl)
                      have hbl := World.block_lt_of_cell? wr _ HC.out
                      have hgw' := hgw
                      have HPR := Lib.hid PR
                      have HSR := Lib.hid SR
                      have HOW := Lib.hid own
                      have HY2 := Lib.hid hy2
                      have HY3 := Lib.hid hy3
                      clear hcell hcell2 hfz hy hy1 hy2 hy3 hv1 PR SR own e2 e3
                      go_wp2_with fail
                      refine hinf.out.mono ?_
                      rintro e w13 ⟨yics, rfl, hb13, hRI⟩
                      obtain ⟨tcs, rfl, hR1, hlv⟩ := hRI
                      obtain ⟨ia, ic, rfl, -, -, -, -⟩ := hR1.open_
                      have P14 := Lib.hid ((HPR.out.then_below hb13).alloc (.cells #[.int .i64 y.lv, .bool y.bd, .int .i64 y.vl.k, .string y.vl.s, .int .i64 y.vl.n, .slice ia y.vl.l.length ic] 37 (0, 0)))
                      have S14 := Lib.hid ((HSR.out.below HPR.out.agree hb13).below (HPR.out.then_below hb13).agree (below_alloc w13 (.cells #[.int .i64 y.lv, .bool y.bd, .int .i64 y.vl.k, .string y.vl.s, .int .i64 y.vl.n, .slice ia y.vl.l.length ic] 37 (0, 0))))
                      have O14 := Lib.hid ((HOW.out.below hb13).alloc (.cells #[.int .i64 y.lv, .bool y.bd, .int .i64 y.vl.k, .string y.vl.s, .int .i64 y.vl.n, .slice ia y.vl.l.length ic] 37 (0, 0)))
                      have BI := Lib.hid (heap_alloc_new w13 (.cells #[.int .i64 y.lv, .bool y.bd, .int .i64 y.vl.k, .string y.vl.s, .int .i64 y.vl.n, .slice ia y.vl.l.length ic] 37 (0, 0)))
                      have hbA := hb13.trans ((below_alloc w13 (.cells #[.int .i64 y.lv, .bool y.bd, .int .i64 y.vl.k, .string y.vl.s, .int .i64 y.vl.n, .slice ia y.vl.l.length ic] 37 (0, 0))).mono hb13.size)
                      have c0 := ((bcell hbA).1 _ _ hbl).trans HC.out
                      have d0 := ((bcell hbA).1 _ _ hgw').trans HD.out
                      simp only [Nat.add_zero, Nat.mul_one] at c0 d0
                      have hbl2 : lb < w13.heap.size := Nat.lt_of_lt_of_le hbl hb13.size
                      have hgw2 : w8.heap.size < w13.heap.size := Nat.lt_of_lt_of_le hgw' hb13.size
                      have HBA := Lib.hid (And.intro hbl hgw')
                      clear hinf hR1 hbl hgw' hgw hb13 hbA HPR HSR HOW
                      go_upto_region 26 with fail
                      generalize hW14 : w13.alloc (.cells #[.int .i64 y.lv, .bool y.bd, .int .i64 y.vl.k, .string y.vl.s, .int .i64 y.vl.n, .slice ia y.vl.l.length ic] 37 (0, 0)) = W14 at *
                      have hW14s : W14.heap.size = w13.heap.size + 1 := by rw [← hW14]; simp
                      clear hW14
                      obtain ⟨i0, i1, i2, i3, i4, i5, i6⟩ := box6 BI.out
                      have hbl3 : lb < W14.heap.size := by omega
                      have hgw3 : w8.heap.size < W14.heap.size := by omega
                      have hjI : (j : Int) < (levels.length : Int) := by omega
                      have fin : Hid (∀ wz, Below W14.heap.size W14 wz → Pure H w H11 wz ∧ StAt H11 wz (fun k => (w4.heap.size ≤ k ∧ k < w8.heap.size) ∨ nq ≤ k) w4.heap.size rS ∧ Own H11 wz w8.heap.size 4 1 BoolP (.slice (some ⟨w8.heap.size, 0, none⟩) levels.length levels.length) (InAt levels.length V)) := Lib.hid (fun wz hb => ⟨P14.out.then_below hb, S14.out.below P14.out.agree hb, O14.out.below hb⟩)
                      have hlv2 := HY2.out
                      unfold St.top0 at hlv2
                      cases hbd : y.bd with
                      | false =>
                        rw [hbd] at i2
                        by_cases hv0 : v < 0
                        · rw [if_pos hv0] at hlv2
                          rw [hlv2] at i1
                          go_quiet (fail)
                          go_wp2_with fail
                          go_roundw
                          case rel => exact ⟨j + 1, by omega, by go_num, fin.out _ (below_drewN (Below.refl _ _) _)⟩
                          case measure => simp [intOf]; omega
                        · rw [if_neg hv0] at hlv2
                          rw [hlv2] at i1
                          go_quiet (fail)
                          go_wp2_with fail
                          go_roundw
                          case rel => exact ⟨j + 1, by omega, by go_num, fin.out _ (below_drewN (Below.refl _ _) _)⟩
                          case measure => simp [intOf]; omega
                      | true =>
                        rw [hbd] at i2
                        have hin := HY3.out hbd
                        have hinV : (j : Int) ∈ V := by rw [← HV.out]; exact hin.1
                        rw [decide_eq_true hinV] at d0
                        clear hinV
                        have hnx : ((j : Int) == x) = false := beq_eq_false_iff_ne.2 hin.2
                        clear hin
                        by_cases hv0 : v < 0
                        · rw [if_pos hv0] at hlv2
                          rw [hlv2] at i1
                          go_quiet (fail)
                          go_wp2_with fail
                          go_roundw
                          case rel => exact ⟨j + 1, by omega, by go_num, fin.out _ (below_drewN (Below.refl _ _) _)⟩
                          case measure => simp [intOf]; omega
                        · rw [if_neg hv0] at hlv2
                          rw [hlv2] at i1
                          go_quiet (fail)
                          go_wp2_with fail
                          go_roundw
                          case rel => exact ⟨j + 1, by omega, by go_num, fin.out _ (below_drewN (Below.refl _ _) _)⟩
                          case measure => simp [intOf]; omega
                    · have hd5 : decide ((j : Int) < (levels.length : Int)) = false := decide_eq_false (by omega)
                      have HPB := Lib.hid PR.below
                      clear PR SR own
                      have hn := hok.out.2
                      dsimp only at hn
                      by_cases hre : re = 0
                      · have hn1 := hn.1 hre
                        subst hre
                        clear hn
                        go_wp2_with fail
                        go_ret
                        exact ⟨rfl, HPB.out⟩
                      · have hn2 := hn.2 hre
                        have hre' : (re == 0) = false := beq_eq_false_iff_ne.2 hre
                        have hre2 : (re != 0) = true := by rw [bne, hre']; rfl
                        have HRE := Lib.hid hre
                        subst hn2
                        clear hn hre
                        go_wp2_with fail
                        go_ret
                        exact ⟨ret_bool (by have := HRE.out; simp [this]), HPB.out⟩
end Go.Proofs.Ytbdappbmlnpogaa
namespace Go.Proofs.Ytbdappbmlnpogaa
open Go Go.RowKit
set_option maxRecDepth 100000
theorem ref_small : BytePred 84 smallB := fun c w => by
  have hc := byte_lt c
  go_enter Try.func84, Try.ntmps84
  go_wp2
  all_goals (go_ret; refine ⟨ret_bool ?_, rfl⟩; simp [smallB]; try omega)
theorem ref_digit : BytePred 95 digitB := fun c w => by
  have hc := byte_lt c
  go_enter Try.func95, Try.ntmps95
  go_wp2
  all_goals (go_ret; refine ⟨ret_bool ?_, rfl⟩; simp [digitB]; try omega)
/-- It answers, whatever it is. -/
def AnsB (e : Ending) : Prop := ∃ b, e = .returned (.bool b)
/-- A test that answers. -/
def ByteQ (g : FuncId) : Prop := ∀ (c : UInt8) (w : World), Calls Try.prog g #[.int .u8 c.toNat] w fun e w' => AnsB e ∧ w' = w
theorem ref_in : ByteQ 85 := fun c w => by
  have hc := byte_lt c
  cases h1 : smallB c <;> cases h3 : digitB c
  all_goals
    have s1 := ref_small c; rw [h1] at s1
    have s3 := ref_digit c; rw [h3] at s3
    go_enter Try.func85, Try.ntmps85
    clear h1 h3
    go_wp2_with (first
      | (go_at_call 84; refine (s1 _).mono ?_; rintro e w' ⟨rfl, rfl⟩)
      | (go_at_call 95; refine (s3 _).mono ?_; rintro e w' ⟨rfl, rfl⟩))
    all_goals (go_ret; exact ⟨⟨_, rfl⟩, rfl⟩)
theorem ref_sign : ByteQ 86 := fun c w => by
  have hc := byte_lt c
  go_enter Try.func86, Try.ntmps86
  go_wp2_with fail
  go_loopw [3] (fun i wr => ∃ (j : Nat), j ≤ 16 ∧ i = .int .i64 j ∧ wr = w) (fun i _ => 16 - (intOf i).toNat)
  case atStart => exact ⟨0, by omega, rfl, rfl⟩
  case round =>
    obtain ⟨j, hj, rfl, rfl⟩ := hrel
    by_cases hlt : j < 16
    · have hb : ∃ u : UInt8, (#[43, 45, 42, 47, 60, 62, 61, 38, 124, 94, 126, 64, 35, 36, 63, 58] : Array UInt8)[j]? = some u := ⟨_, Array.getElem?_eq_getElem (by simpa using hlt)⟩
      obtain ⟨u, hu⟩ := hb
      have hjI : (j : Int) < 16 := by omega
      go_wp2_with fail
      all_goals first
        | (go_ret; exact ⟨⟨_, rfl⟩, rfl⟩)
        | (go_roundw
           case rel => exact ⟨j + 1, by omega, by go_num, trivial⟩
           case measure => simp [intOf]; omega)
    · have hd3 : decide ((j : Int) < 16) = false := decide_eq_false (by omega)
      go_wp2_with fail
      go_ret
      exact ⟨⟨_, rfl⟩, rfl⟩
/-- A test on texts that answers. -/
def TextQ (g : FuncId) : Prop := ∀ (s : ByteArray) (w : World), s.size ≤ maxLen → Calls Try.prog g #[.string s] w fun e w' => AnsB e ∧ w' = w
theorem ref_IsName : TextQ 75 := fun s w hs => by
  unfold maxLen at hs
  have loop : ∀ (hlo : 1 ≤ (s.size : Int)) (hhi : (s.size : Int) ≤ 32), Calls Try.prog 75 #[.string s] w fun e w' => AnsB e ∧ w' = w := by
    intro hlo hhi
    have hd1 : decide ((s.size : Int) < 1) = false := decide_eq_false (by omega)
    have hd2 : decide (32 < (s.size : Int)) = false := decide_eq_false (by omega)
    have h0 : 0 < s.size := by omega
    have h2 := Lib.hid (ref_small s[0])
    cases hq : smallB s[0] with
    | false =>
      have HQ := Lib.hid hq
      clear hq
      go_enter Try.func75, Try.ntmps75
      go_wp2_with fail
      refine (h2.out _).mono ?_
      rw [HQ.out]
      rintro e w' ⟨rfl, rfl⟩
      go_wp2_with fail
      go_ret
      exact ⟨⟨_, rfl⟩, rfl⟩
    | true =>
      have HQ := Lib.hid hq
      clear hq
      go_enter Try.func75, Try.ntmps75
      go_wp2_with fail
      refine (h2.out _).mono ?_
      rw [HQ.out]
      rintro e w' ⟨rfl, rfl⟩
      go_wp2_with fail
      go_loopw [3, 4] (fun i _ wr => ∃ (j : Nat), j ≤ s.size ∧ i = .int .i64 j ∧ wr = w') (fun i _ _ => s.size - (intOf i).toNat)
      case atStart => exact ⟨0, by omega, rfl, rfl⟩
      case round =>
        obtain ⟨j, hj, rfl, rfl⟩ := hrel
        by_cases hlt : j < s.size
        · have hcall := Lib.hid (ref_in s[j])
          go_wp2_with fail
          refine (hcall.out _).mono ?_
          rintro e w'' ⟨⟨b, rfl⟩, rfl⟩
          cases b with
          | true =>
            go_wp2_with fail
            go_roundw
            case rel => exact ⟨j + 1, by omega, by go_num, trivial⟩
            case measure => simp [intOf]; omega
          | false =>
            go_wp2_with fail
            go_ret
            exact ⟨⟨_, rfl⟩, rfl⟩
        · have hd3 : decide ((j : Int) < (s.size : Int)) = false := decide_eq_false (by omega)
          go_wp2_with fail
          go_ret
          exact ⟨⟨_, rfl⟩, rfl⟩
  by_cases h1 : (s.size : Int) < 1
  · go_enter Try.func75, Try.ntmps75
    go_wp2_with fail
    go_ret
    exact ⟨⟨_, rfl⟩, rfl⟩
  · by_cases h2 : 32 < (s.size : Int)
    · have hd1 : decide ((s.size : Int) < 1) = false := decide_eq_false h1
      go_enter Try.func75, Try.ntmps75
      go_wp2_with fail
      go_ret
      exact ⟨⟨_, rfl⟩, rfl⟩
    · exact loop (by omega) (by omega)
theorem ref_IsSym : TextQ 76 := fun s w hs => by
  unfold maxLen at hs
  cases q1 : (s.toList == [44]) <;> cases q2 : (s.toList == [59]) <;> cases q3 : (s.toList == [33])
  case false.false.false =>
    go_enter Try.func76, Try.ntmps76
    go_wp2_with fail
    go_loopw [3, 4] (fun i _ wr => ∃ (j : Nat), j ≤ s.size ∧ i = .int .i64 j ∧ wr = w) (fun i _ _ => s.size - (intOf i).toNat)
    case atStart => exact ⟨0, by omega, rfl, rfl⟩
    case round =>
      obtain ⟨j, hj, rfl, rfl⟩ := hrel
      by_cases hlt : j < s.size
      · have hcall := Lib.hid (ref_sign s[j])
        go_wp2_with fail
        refine (hcall.out _).mono ?_
        rintro e w'' ⟨⟨b, rfl⟩, rfl⟩
        cases b with
        | true =>
          go_wp2_with fail
          go_roundw
          case rel => exact ⟨j + 1, by omega, by go_num, trivial⟩
          case measure => simp [intOf]; omega
        | false =>
          go_wp2_with fail
          go_ret
          exact ⟨⟨_, rfl⟩, rfl⟩
      · have hd3 : decide ((j : Int) < (s.size : Int)) = false := decide_eq_false (by omega)
        go_wp2_with fail
        all_goals
          go_ret
          exact ⟨⟨_, rfl⟩, rfl⟩
  all_goals
    go_enter Try.func76, Try.ntmps76
    go_wp2_with fail
    all_goals (go_ret; exact ⟨⟨_, rfl⟩, rfl⟩)
end Go.Proofs.Ytbdappbmlnpogaa
namespace Go.Proofs.Ytbdappbmlnpogaa
open Go Go.RowKit
set_option maxRecDepth 100000
def IsB (v : Value) : Prop := ∃ b, v = .bool b
set_option maxHeartbeats 4000000 in
theorem rvalid_eigen (s : ByteArray) (n : Int) (l : List Tm) (a : Option Addr) (cap : Nat) (H : GH) (w : World) (hT : Tms H (.slice a l.length cap) l) (hA : Agree H w) (hs : s.size ≤ maxLen) 
    (ih : Hid (∀ t ∈ l, ∀ (cs : List Value) (H : GH) (w : World), Rep H t cs → Agree H w → Calls Try.prog 56 #[.agg cs.toArray] w fun e w' => AnsB e ∧ Below w.heap.size w w')) :
    Calls Try.prog 56 #[.agg #[.int .i64 1, .string s, .int .i64 n, .slice a l.length cap]] w fun e w' => AnsB e ∧ Below w.heap.size w w' := by
  have hlen := hT.len
  have hlm := hlen.2.2
  have hll := hlen.2.1
  unfold maxLen at hlm hs
  clear hlen
  have B0 := Lib.hid (show (w.alloc (.cells #[.int .i64 1, .string s, .int .i64 n, .slice a l.length cap] 30 (0, 0))).heap[w.heap.size]? = some (.cells #[.int .i64 1, .string s, .int .i64 n, .slice a l.length cap] 30 (0, 0)) from heap_alloc_new _ _)
  go_enter Try.func56, Try.ntmps56
  go_wp2_with fail
  all_goals
    go_loopw [3, 7] (fun q i wr => ∃ (j : Nat), j ≤ l.length ∧ i = .int .i64 j ∧ IsB q ∧ Below w.heap.size w wr ∧ wr.heap[w.heap.size]? = some (.cells #[.int .i64 1, .string s, .int .i64 n, .slice a l.length cap] 30 (0, 0))) (fun _ i _ => l.length - (intOf i).toNat)
    case atStart => exact ⟨0, Nat.zero_le _, rfl, ⟨_, rfl⟩, below_alloc _ _, B0.out⟩
    case round =>
      obtain ⟨j, hj, rfl, ⟨b, rfl⟩, hb, hB⟩ := hrel
      obtain ⟨p0, p1, p2, p3, p4, p5, p6, p7, p8⟩ := box4 hB
      have HBB := Lib.hid hB
      by_cases hlt : j < l.length
      · cases b with
        | true =>
          obtain ⟨x, hx⟩ : ∃ x, l[j]? = some x := ⟨_, List.getElem?_eq_getElem hlt⟩
          have hxm := List.mem_of_getElem? hx
          obtain ⟨b', o, xcs, rfl, -, hRx, hcell⟩ := hT.get hx
          have hA' := hA.below hb
          have hcall := Lib.hid (fun W hW => ih.out x hxm xcs H W hRx (hA'.below hW))
          obtain ⟨xa, xc, rfl, -, -, -, -⟩ := hRx.open_
          have c0 := hA'.cell (hcell 0 _ rfl)
          have c1 := hA'.cell (hcell 1 _ rfl)
          have c2 := hA'.cell (hcell 2 _ rfl)
          have c3 := hA'.cell (hcell 3 _ rfl)
          simp only [Nat.add_zero, ← Nat.add_assoc] at c0 c1 c2 c3
          have hbl := World.block_lt_of_cell? wr _ c0
          have HX := Lib.hid hx
          have HXM := Lib.hid hxm
          clear hx hcell hRx hxm hB
          go_wp2_with fail
          refine (hcall.out _ (Below.refl _ _)).mono ?_
          rintro e w2 ⟨⟨bb, rfl⟩, hb2⟩
          go_wp2_with fail
          go_roundw
          case rel => exact ⟨j + 1, by omega, by go_num, ⟨_, rfl⟩, hb.trans (hb2.mono hb.size), Below.blk hb2 HBB.out⟩
          case measure => simp [intOf]; omega
        | false =>
          clear hB
          go_wp2_with fail
          go_ret
          exact ⟨⟨_, rfl⟩, hb⟩
      · have hd2 : decide ((j : Int) < (l.length : Int)) = false := decide_eq_false (by omega)
        clear hB
        cases b <;>
        · go_wp2_with fail
          go_ret
          exact ⟨⟨_, rfl⟩, hb⟩
set_option maxHeartbeats 4000000 in
theorem rvalid_int (s : ByteArray) (n : Int) (l : List Tm) (a : Option Addr) (cap : Nat) (H : GH) (w : World) (hT : Tms H (.slice a l.length cap) l) (hA : Agree H w) (hs : s.size ≤ maxLen) 
    (ih : Hid (∀ t ∈ l, ∀ (cs : List Value) (H : GH) (w : World), Rep H t cs → Agree H w → Calls Try.prog 56 #[.agg cs.toArray] w fun e w' => AnsB e ∧ Below w.heap.size w w')) :
    Calls Try.prog 56 #[.agg #[.int .i64 2, .string s, .int .i64 n, .slice a l.length cap]] w fun e w' => AnsB e ∧ Below w.heap.size w w' := by
  have hlen := hT.len
  have hlm := hlen.2.2
  have hll := hlen.2.1
  unfold maxLen at hlm hs
  clear hlen
  have B0 := Lib.hid (show (w.alloc (.cells #[.int .i64 2, .string s, .int .i64 n, .slice a l.length cap] 30 (0, 0))).heap[w.heap.size]? = some (.cells #[.int .i64 2, .string s, .int .i64 n, .slice a l.length cap] 30 (0, 0)) from heap_alloc_new _ _)
  go_enter Try.func56, Try.ntmps56
  go_wp2_with fail
  all_goals
    go_loopw [3, 7] (fun q i wr => ∃ (j : Nat), j ≤ l.length ∧ i = .int .i64 j ∧ IsB q ∧ Below w.heap.size w wr ∧ wr.heap[w.heap.size]? = some (.cells #[.int .i64 2, .string s, .int .i64 n, .slice a l.length cap] 30 (0, 0))) (fun _ i _ => l.length - (intOf i).toNat)
    case atStart => exact ⟨0, Nat.zero_le _, rfl, ⟨_, rfl⟩, below_alloc _ _, B0.out⟩
    case round =>
      obtain ⟨j, hj, rfl, ⟨b, rfl⟩, hb, hB⟩ := hrel
      obtain ⟨p0, p1, p2, p3, p4, p5, p6, p7, p8⟩ := box4 hB
      have HBB := Lib.hid hB
      by_cases hlt : j < l.length
      · cases b with
        | true =>
          obtain ⟨x, hx⟩ : ∃ x, l[j]? = some x := ⟨_, List.getElem?_eq_getElem hlt⟩
          have hxm := List.mem_of_getElem? hx
          obtain ⟨b', o, xcs, rfl, -, hRx, hcell⟩ := hT.get hx
          have hA' := hA.below hb
          have hcall := Lib.hid (fun W hW => ih.out x hxm xcs H W hRx (hA'.below hW))
          obtain ⟨xa, xc, rfl, -, -, -, -⟩ := hRx.open_
          have c0 := hA'.cell (hcell 0 _ rfl)
          have c1 := hA'.cell (hcell 1 _ rfl)
          have c2 := hA'.cell (hcell 2 _ rfl)
          have c3 := hA'.cell (hcell 3 _ rfl)
          simp only [Nat.add_zero, ← Nat.add_assoc] at c0 c1 c2 c3
          have hbl := World.block_lt_of_cell? wr _ c0
          have HX := Lib.hid hx
          have HXM := Lib.hid hxm
          clear hx hcell hRx hxm hB
          go_wp2_with fail
          refine (hcall.out _ (Below.refl _ _)).mono ?_
          rintro e w2 ⟨⟨bb, rfl⟩, hb2⟩
          go_wp2_with fail
          go_roundw
          case rel => exact ⟨j + 1, by omega, by go_num, ⟨_, rfl⟩, hb.trans (hb2.mono hb.size), Below.blk hb2 HBB.out⟩
          case measure => simp [intOf]; omega
        | false =>
          clear hB
          go_wp2_with fail
          go_ret
          exact ⟨⟨_, rfl⟩, hb⟩
      · have hd2 : decide ((j : Int) < (l.length : Int)) = false := decide_eq_false (by omega)
        clear hB
        cases b <;>
        · go_wp2_with fail
          go_ret
          exact ⟨⟨_, rfl⟩, hb⟩
set_option maxHeartbeats 4000000 in
theorem rvalid_bound (s : ByteArray) (n : Int) (l : List Tm) (a : Option Addr) (cap : Nat) (H : GH) (w : World) (hT : Tms H (.slice a l.length cap) l) (hA : Agree H w) (hs : s.size ≤ maxLen) 
    (ih : Hid (∀ t ∈ l, ∀ (cs : List Value) (H : GH) (w : World), Rep H t cs → Agree H w → Calls Try.prog 56 #[.agg cs.toArray] w fun e w' => AnsB e ∧ Below w.heap.size w w')) :
    Calls Try.prog 56 #[.agg #[.int .i64 3, .string s, .int .i64 n, .slice a l.length cap]] w fun e w' => AnsB e ∧ Below w.heap.size w w' := by
  have hlen := hT.len
  have hlm := hlen.2.2
  have hll := hlen.2.1
  unfold maxLen at hlm hs
  clear hlen
  have B0 := Lib.hid (show (w.alloc (.cells #[.int .i64 3, .string s, .int .i64 n, .slice a l.length cap] 30 (0, 0))).heap[w.heap.size]? = some (.cells #[.int .i64 3, .string s, .int .i64 n, .slice a l.length cap] 30 (0, 0)) from heap_alloc_new _ _)
  go_enter Try.func56, Try.ntmps56
  go_wp2_with fail
  all_goals
    go_loopw [3, 7] (fun q i wr => ∃ (j : Nat), j ≤ l.length ∧ i = .int .i64 j ∧ IsB q ∧ Below w.heap.size w wr ∧ wr.heap[w.heap.size]? = some (.cells #[.int .i64 3, .string s, .int .i64 n, .slice a l.length cap] 30 (0, 0))) (fun _ i _ => l.length - (intOf i).toNat)
    case atStart => exact ⟨0, Nat.zero_le _, rfl, ⟨_, rfl⟩, below_alloc _ _, B0.out⟩
    case round =>
      obtain ⟨j, hj, rfl, ⟨b, rfl⟩, hb, hB⟩ := hrel
      obtain ⟨p0, p1, p2, p3, p4, p5, p6, p7, p8⟩ := box4 hB
      have HBB := Lib.hid hB
      by_cases hlt : j < l.length
      · cases b with
        | true =>
          obtain ⟨x, hx⟩ : ∃ x, l[j]? = some x := ⟨_, List.getElem?_eq_getElem hlt⟩
          have hxm := List.mem_of_getElem? hx
          obtain ⟨b', o, xcs, rfl, -, hRx, hcell⟩ := hT.get hx
          have hA' := hA.below hb
          have hcall := Lib.hid (fun W hW => ih.out x hxm xcs H W hRx (hA'.below hW))
          obtain ⟨xa, xc, rfl, -, -, -, -⟩ := hRx.open_
          have c0 := hA'.cell (hcell 0 _ rfl)
          have c1 := hA'.cell (hcell 1 _ rfl)
          have c2 := hA'.cell (hcell 2 _ rfl)
          have c3 := hA'.cell (hcell 3 _ rfl)
          simp only [Nat.add_zero, ← Nat.add_assoc] at c0 c1 c2 c3
          have hbl := World.block_lt_of_cell? wr _ c0
          have HX := Lib.hid hx
          have HXM := Lib.hid hxm
          clear hx hcell hRx hxm hB
          go_wp2_with fail
          refine (hcall.out _ (Below.refl _ _)).mono ?_
          rintro e w2 ⟨⟨bb, rfl⟩, hb2⟩
          go_wp2_with fail
          go_roundw
          case rel => exact ⟨j + 1, by omega, by go_num, ⟨_, rfl⟩, hb.trans (hb2.mono hb.size), Below.blk hb2 HBB.out⟩
          case measure => simp [intOf]; omega
        | false =>
          clear hB
          go_wp2_with fail
          go_ret
          exact ⟨⟨_, rfl⟩, hb⟩
      · have hd2 : decide ((j : Int) < (l.length : Int)) = false := decide_eq_false (by omega)
        clear hB
        cases b <;>
        · go_wp2_with fail
          go_ret
          exact ⟨⟨_, rfl⟩, hb⟩
set_option maxHeartbeats 4000000 in
theorem rvalid_var (s : ByteArray) (n : Int) (l : List Tm) (a : Option Addr) (cap : Nat) (H : GH) (w : World) (hT : Tms H (.slice a l.length cap) l) (hA : Agree H w) (hs : s.size ≤ maxLen) 
    (ih : Hid (∀ t ∈ l, ∀ (cs : List Value) (H : GH) (w : World), Rep H t cs → Agree H w → Calls Try.prog 56 #[.agg cs.toArray] w fun e w' => AnsB e ∧ Below w.heap.size w w')) :
    Calls Try.prog 56 #[.agg #[.int .i64 4, .string s, .int .i64 n, .slice a l.length cap]] w fun e w' => AnsB e ∧ Below w.heap.size w w' := by
  have hlen := hT.len
  have hlm := hlen.2.2
  have hll := hlen.2.1
  unfold maxLen at hlm hs
  clear hlen
  have B0 := Lib.hid (show (w.alloc (.cells #[.int .i64 4, .string s, .int .i64 n, .slice a l.length cap] 30 (0, 0))).heap[w.heap.size]? = some (.cells #[.int .i64 4, .string s, .int .i64 n, .slice a l.length cap] 30 (0, 0)) from heap_alloc_new _ _)
  go_enter Try.func56, Try.ntmps56
  go_wp2_with fail
  all_goals
    go_loopw [3, 7] (fun q i wr => ∃ (j : Nat), j ≤ l.length ∧ i = .int .i64 j ∧ IsB q ∧ Below w.heap.size w wr ∧ wr.heap[w.heap.size]? = some (.cells #[.int .i64 4, .string s, .int .i64 n, .slice a l.length cap] 30 (0, 0))) (fun _ i _ => l.length - (intOf i).toNat)
    case atStart => exact ⟨0, Nat.zero_le _, rfl, ⟨_, rfl⟩, below_alloc _ _, B0.out⟩
    case round =>
      obtain ⟨j, hj, rfl, ⟨b, rfl⟩, hb, hB⟩ := hrel
      obtain ⟨p0, p1, p2, p3, p4, p5, p6, p7, p8⟩ := box4 hB
      have HBB := Lib.hid hB
      by_cases hlt : j < l.length
      · cases b with
        | true =>
          obtain ⟨x, hx⟩ : ∃ x, l[j]? = some x := ⟨_, List.getElem?_eq_getElem hlt⟩
          have hxm := List.mem_of_getElem? hx
          obtain ⟨b', o, xcs, rfl, -, hRx, hcell⟩ := hT.get hx
          have hA' := hA.below hb
          have hcall := Lib.hid (fun W hW => ih.out x hxm xcs H W hRx (hA'.below hW))
          obtain ⟨xa, xc, rfl, -, -, -, -⟩ := hRx.open_
          have c0 := hA'.cell (hcell 0 _ rfl)
          have c1 := hA'.cell (hcell 1 _ rfl)
          have c2 := hA'.cell (hcell 2 _ rfl)
          have c3 := hA'.cell (hcell 3 _ rfl)
          simp only [Nat.add_zero, ← Nat.add_assoc] at c0 c1 c2 c3
          have hbl := World.block_lt_of_cell? wr _ c0
          have HX := Lib.hid hx
          have HXM := Lib.hid hxm
          clear hx hcell hRx hxm hB
          go_wp2_with fail
          refine (hcall.out _ (Below.refl _ _)).mono ?_
          rintro e w2 ⟨⟨bb, rfl⟩, hb2⟩
          go_wp2_with fail
          go_roundw
          case rel => exact ⟨j + 1, by omega, by go_num, ⟨_, rfl⟩, hb.trans (hb2.mono hb.size), Below.blk hb2 HBB.out⟩
          case measure => simp [intOf]; omega
        | false =>
          clear hB
          go_wp2_with fail
          go_ret
          exact ⟨⟨_, rfl⟩, hb⟩
      · have hd2 : decide ((j : Int) < (l.length : Int)) = false := decide_eq_false (by omega)
        clear hB
        cases b <;>
        · go_wp2_with fail
          go_ret
          exact ⟨⟨_, rfl⟩, hb⟩
set_option maxHeartbeats 4000000 in
theorem rvalid_lam (s : ByteArray) (n : Int) (l : List Tm) (a : Option Addr) (cap : Nat) (H : GH) (w : World) (hT : Tms H (.slice a l.length cap) l) (hA : Agree H w) (hs : s.size ≤ maxLen) (hn : (n == 0) = false)
    (ih : Hid (∀ t ∈ l, ∀ (cs : List Value) (H : GH) (w : World), Rep H t cs → Agree H w → Calls Try.prog 56 #[.agg cs.toArray] w fun e w' => AnsB e ∧ Below w.heap.size w w')) :
    Calls Try.prog 56 #[.agg #[.int .i64 5, .string s, .int .i64 n, .slice a l.length cap]] w fun e w' => AnsB e ∧ Below w.heap.size w w' := by
  have hlen := hT.len
  have hlm := hlen.2.2
  have hll := hlen.2.1
  unfold maxLen at hlm hs
  clear hlen
  have B0 := Lib.hid (show (w.alloc (.cells #[.int .i64 5, .string s, .int .i64 n, .slice a l.length cap] 30 (0, 0))).heap[w.heap.size]? = some (.cells #[.int .i64 5, .string s, .int .i64 n, .slice a l.length cap] 30 (0, 0)) from heap_alloc_new _ _)
  have hn0 : (n == 0) = false := hn
  go_enter Try.func56, Try.ntmps56
  go_wp2_with fail
  all_goals
    go_loopw [3, 7] (fun q i wr => ∃ (j : Nat), j ≤ l.length ∧ i = .int .i64 j ∧ IsB q ∧ Below w.heap.size w wr ∧ wr.heap[w.heap.size]? = some (.cells #[.int .i64 5, .string s, .int .i64 n, .slice a l.length cap] 30 (0, 0))) (fun _ i _ => l.length - (intOf i).toNat)
    case atStart => exact ⟨0, Nat.zero_le _, rfl, ⟨_, rfl⟩, below_alloc _ _, B0.out⟩
    case round =>
      obtain ⟨j, hj, rfl, ⟨b, rfl⟩, hb, hB⟩ := hrel
      obtain ⟨p0, p1, p2, p3, p4, p5, p6, p7, p8⟩ := box4 hB
      have HBB := Lib.hid hB
      by_cases hlt : j < l.length
      · cases b with
        | true =>
          obtain ⟨x, hx⟩ : ∃ x, l[j]? = some x := ⟨_, List.getElem?_eq_getElem hlt⟩
          have hxm := List.mem_of_getElem? hx
          obtain ⟨b', o, xcs, rfl, -, hRx, hcell⟩ := hT.get hx
          have hA' := hA.below hb
          have hcall := Lib.hid (fun W hW => ih.out x hxm xcs H W hRx (hA'.below hW))
          obtain ⟨xa, xc, rfl, -, -, -, -⟩ := hRx.open_
          have c0 := hA'.cell (hcell 0 _ rfl)
          have c1 := hA'.cell (hcell 1 _ rfl)
          have c2 := hA'.cell (hcell 2 _ rfl)
          have c3 := hA'.cell (hcell 3 _ rfl)
          simp only [Nat.add_zero, ← Nat.add_assoc] at c0 c1 c2 c3
          have hbl := World.block_lt_of_cell? wr _ c0
          have HX := Lib.hid hx
          have HXM := Lib.hid hxm
          clear hx hcell hRx hxm hB
          go_wp2_with fail
          refine (hcall.out _ (Below.refl _ _)).mono ?_
          rintro e w2 ⟨⟨bb, rfl⟩, hb2⟩
          go_wp2_with fail
          go_roundw
          case rel => exact ⟨j + 1, by omega, by go_num, ⟨_, rfl⟩, hb.trans (hb2.mono hb.size), Below.blk hb2 HBB.out⟩
          case measure => simp [intOf]; omega
        | false =>
          clear hB
          go_wp2_with fail
          go_ret
          exact ⟨⟨_, rfl⟩, hb⟩
      · have hd2 : decide ((j : Int) < (l.length : Int)) = false := decide_eq_false (by omega)
        clear hB
        cases b <;>
        · go_wp2_with fail
          go_ret
          exact ⟨⟨_, rfl⟩, hb⟩
set_option maxHeartbeats 4000000 in
theorem rvalid_lam0 (s : ByteArray) (l : List Tm) (a : Option Addr) (cap : Nat) (H : GH) (w : World) (hT : Tms H (.slice a l.length cap) l) (hA : Agree H w) (hs : s.size ≤ maxLen) 
    (ih : Hid (∀ t ∈ l, ∀ (cs : List Value) (H : GH) (w : World), Rep H t cs → Agree H w → Calls Try.prog 56 #[.agg cs.toArray] w fun e w' => AnsB e ∧ Below w.heap.size w w')) :
    Calls Try.prog 56 #[.agg #[.int .i64 5, .string s, .int .i64 0, .slice a l.length cap]] w fun e w' => AnsB e ∧ Below w.heap.size w w' := by
  have hlen := hT.len
  have hlm := hlen.2.2
  have hll := hlen.2.1
  unfold maxLen at hlm hs
  clear hlen
  have B0 := Lib.hid (show (w.alloc (.cells #[.int .i64 5, .string s, .int .i64 0, .slice a l.length cap] 30 (0, 0))).heap[w.heap.size]? = some (.cells #[.int .i64 5, .string s, .int .i64 0, .slice a l.length cap] 30 (0, 0)) from heap_alloc_new _ _)
  go_enter Try.func56, Try.ntmps56
  go_wp2_with fail
  all_goals
    go_loopw [3, 7] (fun q i wr => ∃ (j : Nat), j ≤ l.length ∧ i = .int .i64 j ∧ IsB q ∧ Below w.heap.size w wr ∧ wr.heap[w.heap.size]? = some (.cells #[.int .i64 5, .string s, .int .i64 0, .slice a l.length cap] 30 (0, 0))) (fun _ i _ => l.length - (intOf i).toNat)
    case atStart => exact ⟨0, Nat.zero_le _, rfl, ⟨_, rfl⟩, below_alloc _ _, B0.out⟩
    case round =>
      obtain ⟨j, hj, rfl, ⟨b, rfl⟩, hb, hB⟩ := hrel
      obtain ⟨p0, p1, p2, p3, p4, p5, p6, p7, p8⟩ := box4 hB
      have HBB := Lib.hid hB
      by_cases hlt : j < l.length
      · cases b with
        | true =>
          obtain ⟨x, hx⟩ : ∃ x, l[j]? = some x := ⟨_, List.getElem?_eq_getElem hlt⟩
          have hxm := List.mem_of_getElem? hx
          obtain ⟨b', o, xcs, rfl, -, hRx, hcell⟩ := hT.get hx
          have hA' := hA.below hb
          have hcall := Lib.hid (fun W hW => ih.out x hxm xcs H W hRx (hA'.below hW))
          obtain ⟨xa, xc, rfl, -, -, -, -⟩ := hRx.open_
          have c0 := hA'.cell (hcell 0 _ rfl)
          have c1 := hA'.cell (hcell 1 _ rfl)
          have c2 := hA'.cell (hcell 2 _ rfl)
          have c3 := hA'.cell (hcell 3 _ rfl)
          simp only [Nat.add_zero, ← Nat.add_assoc] at c0 c1 c2 c3
          have hbl := World.block_lt_of_cell? wr _ c0
          have HX := Lib.hid hx
          have HXM := Lib.hid hxm
          clear hx hcell hRx hxm hB
          go_wp2_with fail
          refine (hcall.out _ (Below.refl _ _)).mono ?_
          rintro e w2 ⟨⟨bb, rfl⟩, hb2⟩
          go_wp2_with fail
          go_roundw
          case rel => exact ⟨j + 1, by omega, by go_num, ⟨_, rfl⟩, hb.trans (hb2.mono hb.size), Below.blk hb2 HBB.out⟩
          case measure => simp [intOf]; omega
        | false =>
          clear hB
          go_wp2_with fail
          go_ret
          exact ⟨⟨_, rfl⟩, hb⟩
      · have hd2 : decide ((j : Int) < (l.length : Int)) = false := decide_eq_false (by omega)
        clear hB
        cases b <;>
        · go_wp2_with fail
          go_ret
          exact ⟨⟨_, rfl⟩, hb⟩
set_option maxHeartbeats 4000000 in
theorem rvalid_other (k : Int) (s : ByteArray) (n : Int) (l : List Tm) (a : Option Addr) (cap : Nat) (H : GH) (w : World) (hT : Tms H (.slice a l.length cap) l) (hA : Agree H w) (hs : s.size ≤ maxLen) (h0 : k ≠ 0) (h1 : k ≠ 1) (h2 : k ≠ 2) (h3 : k ≠ 3) (h4 : k ≠ 4) (h5 : k ≠ 5) (h6 : k ≠ 6)
    (ih : Hid (∀ t ∈ l, ∀ (cs : List Value) (H : GH) (w : World), Rep H t cs → Agree H w → Calls Try.prog 56 #[.agg cs.toArray] w fun e w' => AnsB e ∧ Below w.heap.size w w')) :
    Calls Try.prog 56 #[.agg #[.int .i64 k, .string s, .int .i64 n, .slice a l.length cap]] w fun e w' => AnsB e ∧ Below w.heap.size w w' := by
  have hlen := hT.len
  have hlm := hlen.2.2
  have hll := hlen.2.1
  unfold maxLen at hlm hs
  clear hlen
  have B0 := Lib.hid (show (w.alloc (.cells #[.int .i64 k, .string s, .int .i64 n, .slice a l.length cap] 30 (0, 0))).heap[w.heap.size]? = some (.cells #[.int .i64 k, .string s, .int .i64 n, .slice a l.length cap] 30 (0, 0)) from heap_alloc_new _ _)
  have b0 : (k == 0) = false := beq_eq_false_iff_ne.2 h0
  have b1 : (k == 1) = false := beq_eq_false_iff_ne.2 h1
  have b2 : (k == 2) = false := beq_eq_false_iff_ne.2 h2
  have b3 : (k == 3) = false := beq_eq_false_iff_ne.2 h3
  have b4 : (k == 4) = false := beq_eq_false_iff_ne.2 h4
  have b5 : (k == 5) = false := beq_eq_false_iff_ne.2 h5
  have b6 : (k == 6) = false := beq_eq_false_iff_ne.2 h6
  go_enter Try.func56, Try.ntmps56
  go_wp2_with fail
  all_goals
    go_loopw [3, 7] (fun q i wr => ∃ (j : Nat), j ≤ l.length ∧ i = .int .i64 j ∧ IsB q ∧ Below w.heap.size w wr ∧ wr.heap[w.heap.size]? = some (.cells #[.int .i64 k, .string s, .int .i64 n, .slice a l.length cap] 30 (0, 0))) (fun _ i _ => l.length - (intOf i).toNat)
    case atStart => exact ⟨0, Nat.zero_le _, rfl, ⟨_, rfl⟩, below_alloc _ _, B0.out⟩
    case round =>
      obtain ⟨j, hj, rfl, ⟨b, rfl⟩, hb, hB⟩ := hrel
      obtain ⟨p0, p1, p2, p3, p4, p5, p6, p7, p8⟩ := box4 hB
      have HBB := Lib.hid hB
      by_cases hlt : j < l.length
      · cases b with
        | true =>
          obtain ⟨x, hx⟩ : ∃ x, l[j]? = some x := ⟨_, List.getElem?_eq_getElem hlt⟩
          have hxm := List.mem_of_getElem? hx
          obtain ⟨b', o, xcs, rfl, -, hRx, hcell⟩ := hT.get hx
          have hA' := hA.below hb
          have hcall := Lib.hid (fun W hW => ih.out x hxm xcs H W hRx (hA'.below hW))
          obtain ⟨xa, xc, rfl, -, -, -, -⟩ := hRx.open_
          have c0 := hA'.cell (hcell 0 _ rfl)
          have c1 := hA'.cell (hcell 1 _ rfl)
          have c2 := hA'.cell (hcell 2 _ rfl)
          have c3 := hA'.cell (hcell 3 _ rfl)
          simp only [Nat.add_zero, ← Nat.add_assoc] at c0 c1 c2 c3
          have hbl := World.block_lt_of_cell? wr _ c0
          have HX := Lib.hid hx
          have HXM := Lib.hid hxm
          clear hx hcell hRx hxm hB
          go_wp2_with fail
          refine (hcall.out _ (Below.refl _ _)).mono ?_
          rintro e w2 ⟨⟨bb, rfl⟩, hb2⟩
          go_wp2_with fail
          go_roundw
          case rel => exact ⟨j + 1, by omega, by go_num, ⟨_, rfl⟩, hb.trans (hb2.mono hb.size), Below.blk hb2 HBB.out⟩
          case measure => simp [intOf]; omega
        | false =>
          clear hB
          go_wp2_with fail
          go_ret
          exact ⟨⟨_, rfl⟩, hb⟩
      · have hd2 : decide ((j : Int) < (l.length : Int)) = false := decide_eq_false (by omega)
        clear hB
        cases b <;>
        · go_wp2_with fail
          go_ret
          exact ⟨⟨_, rfl⟩, hb⟩
set_option maxHeartbeats 4000000 in
theorem rvalid_app00 (s : ByteArray) (l : List Tm) (a : Option Addr) (cap : Nat) (H : GH) (w : World) (hT : Tms H (.slice a l.length cap) l) (hA : Agree H w) (hs : s.size ≤ maxLen) (h2 : ¬ 2 ≤ l.length)
    (ih : Hid (∀ t ∈ l, ∀ (cs : List Value) (H : GH) (w : World), Rep H t cs → Agree H w → Calls Try.prog 56 #[.agg cs.toArray] w fun e w' => AnsB e ∧ Below w.heap.size w w')) :
    Calls Try.prog 56 #[.agg #[.int .i64 6, .string s, .int .i64 0, .slice a l.length cap]] w fun e w' => AnsB e ∧ Below w.heap.size w w' := by
  have hlen := hT.len
  have hlm := hlen.2.2
  have hll := hlen.2.1
  unfold maxLen at hlm hs
  clear hlen
  have B0 := Lib.hid (show (w.alloc (.cells #[.int .i64 6, .string s, .int .i64 0, .slice a l.length cap] 30 (0, 0))).heap[w.heap.size]? = some (.cells #[.int .i64 6, .string s, .int .i64 0, .slice a l.length cap] 30 (0, 0)) from heap_alloc_new _ _)
  have hn0 : ((0 : Int) == 0) = true := rfl
  have h2' : decide (2 ≤ (l.length : Int)) = false := by rw [decide_eq_false_iff_not]; omega
  go_enter Try.func56, Try.ntmps56
  go_wp2_with fail
  all_goals
    go_loopw [3, 7] (fun q i wr => ∃ (j : Nat), j ≤ l.length ∧ i = .int .i64 j ∧ IsB q ∧ Below w.heap.size w wr ∧ wr.heap[w.heap.size]? = some (.cells #[.int .i64 6, .string s, .int .i64 0, .slice a l.length cap] 30 (0, 0))) (fun _ i _ => l.length - (intOf i).toNat)
    case atStart => exact ⟨0, Nat.zero_le _, rfl, ⟨_, rfl⟩, below_alloc _ _, B0.out⟩
    case round =>
      obtain ⟨j, hj, rfl, ⟨b, rfl⟩, hb, hB⟩ := hrel
      obtain ⟨p0, p1, p2, p3, p4, p5, p6, p7, p8⟩ := box4 hB
      have HBB := Lib.hid hB
      by_cases hlt : j < l.length
      · cases b with
        | true =>
          obtain ⟨x, hx⟩ : ∃ x, l[j]? = some x := ⟨_, List.getElem?_eq_getElem hlt⟩
          have hxm := List.mem_of_getElem? hx
          obtain ⟨b', o, xcs, rfl, -, hRx, hcell⟩ := hT.get hx
          have hA' := hA.below hb
          have hcall := Lib.hid (fun W hW => ih.out x hxm xcs H W hRx (hA'.below hW))
          obtain ⟨xa, xc, rfl, -, -, -, -⟩ := hRx.open_
          have c0 := hA'.cell (hcell 0 _ rfl)
          have c1 := hA'.cell (hcell 1 _ rfl)
          have c2 := hA'.cell (hcell 2 _ rfl)
          have c3 := hA'.cell (hcell 3 _ rfl)
          simp only [Nat.add_zero, ← Nat.add_assoc] at c0 c1 c2 c3
          have hbl := World.block_lt_of_cell? wr _ c0
          have HX := Lib.hid hx
          have HXM := Lib.hid hxm
          clear hx hcell hRx hxm hB
          go_wp2_with fail
          refine (hcall.out _ (Below.refl _ _)).mono ?_
          rintro e w2 ⟨⟨bb, rfl⟩, hb2⟩
          go_wp2_with fail
          go_roundw
          case rel => exact ⟨j + 1, by omega, by go_num, ⟨_, rfl⟩, hb.trans (hb2.mono hb.size), Below.blk hb2 HBB.out⟩
          case measure => simp [intOf]; omega
        | false =>
          clear hB
          go_wp2_with fail
          go_ret
          exact ⟨⟨_, rfl⟩, hb⟩
      · have hd2 : decide ((j : Int) < (l.length : Int)) = false := decide_eq_false (by omega)
        clear hB
        cases b <;>
        · go_wp2_with fail
          go_ret
          exact ⟨⟨_, rfl⟩, hb⟩
set_option maxHeartbeats 4000000 in
theorem rvalid_app0n (s : ByteArray) (n : Int) (l : List Tm) (a : Option Addr) (cap : Nat) (H : GH) (w : World) (hT : Tms H (.slice a l.length cap) l) (hA : Agree H w) (hs : s.size ≤ maxLen) (h2 : ¬ 2 ≤ l.length) (hn : (n == 0) = false)
    (ih : Hid (∀ t ∈ l, ∀ (cs : List Value) (H : GH) (w : World), Rep H t cs → Agree H w → Calls Try.prog 56 #[.agg cs.toArray] w fun e w' => AnsB e ∧ Below w.heap.size w w')) :
    Calls Try.prog 56 #[.agg #[.int .i64 6, .string s, .int .i64 n, .slice a l.length cap]] w fun e w' => AnsB e ∧ Below w.heap.size w w' := by
  have hlen := hT.len
  have hlm := hlen.2.2
  have hll := hlen.2.1
  unfold maxLen at hlm hs
  clear hlen
  have B0 := Lib.hid (show (w.alloc (.cells #[.int .i64 6, .string s, .int .i64 n, .slice a l.length cap] 30 (0, 0))).heap[w.heap.size]? = some (.cells #[.int .i64 6, .string s, .int .i64 n, .slice a l.length cap] 30 (0, 0)) from heap_alloc_new _ _)
  have hn0 : (n == 0) = false := hn
  have h2' : decide (2 ≤ (l.length : Int)) = false := by rw [decide_eq_false_iff_not]; omega
  go_enter Try.func56, Try.ntmps56
  go_wp2_with fail
  all_goals
    go_loopw [3, 7] (fun q i wr => ∃ (j : Nat), j ≤ l.length ∧ i = .int .i64 j ∧ IsB q ∧ Below w.heap.size w wr ∧ wr.heap[w.heap.size]? = some (.cells #[.int .i64 6, .string s, .int .i64 n, .slice a l.length cap] 30 (0, 0))) (fun _ i _ => l.length - (intOf i).toNat)
    case atStart => exact ⟨0, Nat.zero_le _, rfl, ⟨_, rfl⟩, below_alloc _ _, B0.out⟩
    case round =>
      obtain ⟨j, hj, rfl, ⟨b, rfl⟩, hb, hB⟩ := hrel
      obtain ⟨p0, p1, p2, p3, p4, p5, p6, p7, p8⟩ := box4 hB
      have HBB := Lib.hid hB
      by_cases hlt : j < l.length
      · cases b with
        | true =>
          obtain ⟨x, hx⟩ : ∃ x, l[j]? = some x := ⟨_, List.getElem?_eq_getElem hlt⟩
          have hxm := List.mem_of_getElem? hx
          obtain ⟨b', o, xcs, rfl, -, hRx, hcell⟩ := hT.get hx
          have hA' := hA.below hb
          have hcall := Lib.hid (fun W hW => ih.out x hxm xcs H W hRx (hA'.below hW))
          obtain ⟨xa, xc, rfl, -, -, -, -⟩ := hRx.open_
          have c0 := hA'.cell (hcell 0 _ rfl)
          have c1 := hA'.cell (hcell 1 _ rfl)
          have c2 := hA'.cell (hcell 2 _ rfl)
          have c3 := hA'.cell (hcell 3 _ rfl)
          simp only [Nat.add_zero, ← Nat.add_assoc] at c0 c1 c2 c3
          have hbl := World.block_lt_of_cell? wr _ c0
          have HX := Lib.hid hx
          have HXM := Lib.hid hxm
          clear hx hcell hRx hxm hB
          go_wp2_with fail
          refine (hcall.out _ (Below.refl _ _)).mono ?_
          rintro e w2 ⟨⟨bb, rfl⟩, hb2⟩
          go_wp2_with fail
          go_roundw
          case rel => exact ⟨j + 1, by omega, by go_num, ⟨_, rfl⟩, hb.trans (hb2.mono hb.size), Below.blk hb2 HBB.out⟩
          case measure => simp [intOf]; omega
        | false =>
          clear hB
          go_wp2_with fail
          go_ret
          exact ⟨⟨_, rfl⟩, hb⟩
      · have hd2 : decide ((j : Int) < (l.length : Int)) = false := decide_eq_false (by omega)
        clear hB
        cases b <;>
        · go_wp2_with fail
          go_ret
          exact ⟨⟨_, rfl⟩, hb⟩
set_option maxHeartbeats 4000000 in
theorem rvalid_app10 (s : ByteArray) (l : List Tm) (a : Option Addr) (cap : Nat) (H : GH) (w : World) (hT : Tms H (.slice a l.length cap) l) (hA : Agree H w) (hs : s.size ≤ maxLen) (h2 : 2 ≤ l.length)
    (ih : Hid (∀ t ∈ l, ∀ (cs : List Value) (H : GH) (w : World), Rep H t cs → Agree H w → Calls Try.prog 56 #[.agg cs.toArray] w fun e w' => AnsB e ∧ Below w.heap.size w w')) :
    Calls Try.prog 56 #[.agg #[.int .i64 6, .string s, .int .i64 0, .slice a l.length cap]] w fun e w' => AnsB e ∧ Below w.heap.size w w' := by
  have hlen := hT.len
  have hlm := hlen.2.2
  have hll := hlen.2.1
  unfold maxLen at hlm hs
  clear hlen
  have B0 := Lib.hid (show (w.alloc (.cells #[.int .i64 6, .string s, .int .i64 0, .slice a l.length cap] 30 (0, 0))).heap[w.heap.size]? = some (.cells #[.int .i64 6, .string s, .int .i64 0, .slice a l.length cap] 30 (0, 0)) from heap_alloc_new _ _)
  have hn0 : ((0 : Int) == 0) = true := rfl
  obtain ⟨x0, hx0⟩ : ∃ x, l[0]? = some x := ⟨_, List.getElem?_eq_getElem (by omega)⟩
  obtain ⟨bq, oq, xcs0, rfl, -, hR0, hcell0⟩ := hT.get hx0
  obtain ⟨xa0, xc0, rfl, -, -, -, -⟩ := hR0.open_
  have h0 := hA.cell (hcell0 0 _ rfl)
  simp only [Nat.add_zero, Nat.zero_mul] at h0
  have hbq := World.block_lt_of_cell? w _ h0
  have h2' : 2 ≤ (l.length : Int) := by omega
  have hlp : (0 : Int) < (l.length : Int) := by omega
  clear hcell0 hx0
  generalize hk0 : x0.k = k0 at h0
  clear hR0 hk0
  go_enter Try.func56, Try.ntmps56
  go_wp2_with fail
  all_goals
    go_loopw [3, 7] (fun q i wr => ∃ (j : Nat), j ≤ l.length ∧ i = .int .i64 j ∧ IsB q ∧ Below w.heap.size w wr ∧ wr.heap[w.heap.size]? = some (.cells #[.int .i64 6, .string s, .int .i64 0, .slice (some ⟨bq, oq, none⟩) l.length cap] 30 (0, 0))) (fun _ i _ => l.length - (intOf i).toNat)
    case atStart => exact ⟨0, Nat.zero_le _, rfl, ⟨_, rfl⟩, below_alloc _ _, B0.out⟩
    case round =>
      obtain ⟨j, hj, rfl, ⟨b, rfl⟩, hb, hB⟩ := hrel
      obtain ⟨p0, p1, p2, p3, p4, p5, p6, p7, p8⟩ := box4 hB
      have HBB := Lib.hid hB
      by_cases hlt : j < l.length
      · cases b with
        | true =>
          obtain ⟨x, hx⟩ : ∃ x, l[j]? = some x := ⟨_, List.getElem?_eq_getElem hlt⟩
          have hxm := List.mem_of_getElem? hx
          obtain ⟨b', o, xcs, he, -, hRx, hcell⟩ := hT.get hx
          cases he
          have hA' := hA.below hb
          have hcall := Lib.hid (fun W hW => ih.out x hxm xcs H W hRx (hA'.below hW))
          obtain ⟨xa, xc, rfl, -, -, -, -⟩ := hRx.open_
          have c0 := hA'.cell (hcell 0 _ rfl)
          have c1 := hA'.cell (hcell 1 _ rfl)
          have c2 := hA'.cell (hcell 2 _ rfl)
          have c3 := hA'.cell (hcell 3 _ rfl)
          simp only [Nat.add_zero, ← Nat.add_assoc] at c0 c1 c2 c3
          have hbl := World.block_lt_of_cell? wr _ c0
          have HX := Lib.hid hx
          have HXM := Lib.hid hxm
          clear hx hcell hRx hxm hB
          go_wp2_with fail
          refine (hcall.out _ (Below.refl _ _)).mono ?_
          rintro e w2 ⟨⟨bb, rfl⟩, hb2⟩
          go_wp2_with fail
          go_roundw
          case rel => exact ⟨j + 1, by omega, by go_num, ⟨_, rfl⟩, hb.trans (hb2.mono hb.size), Below.blk hb2 HBB.out⟩
          case measure => simp [intOf]; omega
        | false =>
          clear hB
          go_wp2_with fail
          go_ret
          exact ⟨⟨_, rfl⟩, hb⟩
      · have hd2 : decide ((j : Int) < (l.length : Int)) = false := decide_eq_false (by omega)
        clear hB
        cases b <;>
        · go_wp2_with fail
          go_ret
          exact ⟨⟨_, rfl⟩, hb⟩
set_option maxHeartbeats 4000000 in
theorem rvalid_app1n (s : ByteArray) (n : Int) (l : List Tm) (a : Option Addr) (cap : Nat) (H : GH) (w : World) (hT : Tms H (.slice a l.length cap) l) (hA : Agree H w) (hs : s.size ≤ maxLen) (h2 : 2 ≤ l.length) (hn : (n == 0) = false)
    (ih : Hid (∀ t ∈ l, ∀ (cs : List Value) (H : GH) (w : World), Rep H t cs → Agree H w → Calls Try.prog 56 #[.agg cs.toArray] w fun e w' => AnsB e ∧ Below w.heap.size w w')) :
    Calls Try.prog 56 #[.agg #[.int .i64 6, .string s, .int .i64 n, .slice a l.length cap]] w fun e w' => AnsB e ∧ Below w.heap.size w w' := by
  have hlen := hT.len
  have hlm := hlen.2.2
  have hll := hlen.2.1
  unfold maxLen at hlm hs
  clear hlen
  have B0 := Lib.hid (show (w.alloc (.cells #[.int .i64 6, .string s, .int .i64 n, .slice a l.length cap] 30 (0, 0))).heap[w.heap.size]? = some (.cells #[.int .i64 6, .string s, .int .i64 n, .slice a l.length cap] 30 (0, 0)) from heap_alloc_new _ _)
  have hn0 : (n == 0) = false := hn
  obtain ⟨x0, hx0⟩ : ∃ x, l[0]? = some x := ⟨_, List.getElem?_eq_getElem (by omega)⟩
  obtain ⟨bq, oq, xcs0, rfl, -, hR0, hcell0⟩ := hT.get hx0
  obtain ⟨xa0, xc0, rfl, -, -, -, -⟩ := hR0.open_
  have h0 := hA.cell (hcell0 0 _ rfl)
  simp only [Nat.add_zero, Nat.zero_mul] at h0
  have hbq := World.block_lt_of_cell? w _ h0
  have h2' : 2 ≤ (l.length : Int) := by omega
  have hlp : (0 : Int) < (l.length : Int) := by omega
  clear hcell0 hx0
  generalize hk0 : x0.k = k0 at h0
  clear hR0 hk0
  go_enter Try.func56, Try.ntmps56
  go_wp2_with fail
  all_goals
    go_loopw [3, 7] (fun q i wr => ∃ (j : Nat), j ≤ l.length ∧ i = .int .i64 j ∧ IsB q ∧ Below w.heap.size w wr ∧ wr.heap[w.heap.size]? = some (.cells #[.int .i64 6, .string s, .int .i64 n, .slice (some ⟨bq, oq, none⟩) l.length cap] 30 (0, 0))) (fun _ i _ => l.length - (intOf i).toNat)
    case atStart => exact ⟨0, Nat.zero_le _, rfl, ⟨_, rfl⟩, below_alloc _ _, B0.out⟩
    case round =>
      obtain ⟨j, hj, rfl, ⟨b, rfl⟩, hb, hB⟩ := hrel
      obtain ⟨p0, p1, p2, p3, p4, p5, p6, p7, p8⟩ := box4 hB
      have HBB := Lib.hid hB
      by_cases hlt : j < l.length
      · cases b with
        | true =>
          obtain ⟨x, hx⟩ : ∃ x, l[j]? = some x := ⟨_, List.getElem?_eq_getElem hlt⟩
          have hxm := List.mem_of_getElem? hx
          obtain ⟨b', o, xcs, he, -, hRx, hcell⟩ := hT.get hx
          cases he
          have hA' := hA.below hb
          have hcall := Lib.hid (fun W hW => ih.out x hxm xcs H W hRx (hA'.below hW))
          obtain ⟨xa, xc, rfl, -, -, -, -⟩ := hRx.open_
          have c0 := hA'.cell (hcell 0 _ rfl)
          have c1 := hA'.cell (hcell 1 _ rfl)
          have c2 := hA'.cell (hcell 2 _ rfl)
          have c3 := hA'.cell (hcell 3 _ rfl)
          simp only [Nat.add_zero, ← Nat.add_assoc] at c0 c1 c2 c3
          have hbl := World.block_lt_of_cell? wr _ c0
          have HX := Lib.hid hx
          have HXM := Lib.hid hxm
          clear hx hcell hRx hxm hB
          go_wp2_with fail
          refine (hcall.out _ (Below.refl _ _)).mono ?_
          rintro e w2 ⟨⟨bb, rfl⟩, hb2⟩
          go_wp2_with fail
          go_roundw
          case rel => exact ⟨j + 1, by omega, by go_num, ⟨_, rfl⟩, hb.trans (hb2.mono hb.size), Below.blk hb2 HBB.out⟩
          case measure => simp [intOf]; omega
        | false =>
          clear hB
          go_wp2_with fail
          go_ret
          exact ⟨⟨_, rfl⟩, hb⟩
      · have hd2 : decide ((j : Int) < (l.length : Int)) = false := decide_eq_false (by omega)
        clear hB
        cases b <;>
        · go_wp2_with fail
          go_ret
          exact ⟨⟨_, rfl⟩, hb⟩
set_option maxHeartbeats 4000000 in
theorem rvalid_const (s : ByteArray) (n : Int) (l : List Tm) (a : Option Addr) (cap : Nat) (H : GH) (w : World) (hT : Tms H (.slice a l.length cap) l) (hA : Agree H w) (hs : s.size ≤ maxLen) 
    :
    Calls Try.prog 56 #[.agg #[.int .i64 0, .string s, .int .i64 n, .slice a l.length cap]] w fun e w' => AnsB e ∧ Below w.heap.size w w' := by
  have hlen := hT.len
  have hlm := hlen.2.2
  have hll := hlen.2.1
  have q1 := Lib.hid (ref_IsName s)
  have q2 := Lib.hid (ref_IsSym s)
  have HS := Lib.hid hs
  unfold maxLen at hlm hs
  clear hlen
  have B0 := Lib.hid (show (w.alloc (.cells #[.int .i64 0, .string s, .int .i64 n, .slice a l.length cap] 30 (0, 0))).heap[w.heap.size]? = some (.cells #[.int .i64 0, .string s, .int .i64 n, .slice a l.length cap] 30 (0, 0)) from heap_alloc_new _ _)
  go_enter Try.func56, Try.ntmps56
  go_wp2_with fail
  refine (q1.out _ HS.out).mono ?_
  rintro e w' ⟨⟨b1, rfl⟩, rfl⟩
  go_wp2_with fail
  refine (q2.out _ HS.out).mono ?_
  rintro e w' ⟨⟨b2, rfl⟩, rfl⟩
  cases b1 <;> cases b2
  all_goals
    go_wp2_with fail
    all_goals
      go_ret
      exact ⟨⟨_, rfl⟩, below_alloc _ _⟩

theorem ref_Valid (t : Tm) : ∀ (cs : List Value) (H : GH) (w : World), Rep H t cs → Agree H w →
    Calls Try.prog 56 #[.agg cs.toArray] w fun e w' => AnsB e ∧ Below w.heap.size w w' := by
  induction t using Tm.ind with
  | h k s n l ih =>
    intro cs H w hR hA
    obtain ⟨a, cap, rfl, -, -, hs, hT⟩ := hR.open_
    simp only [Tm.k_mk, Tm.s_mk, Tm.n_mk, Tm.l_mk] at *
    have hi := Lib.hid ih
    by_cases h0 : k = 0
    · subst h0; exact rvalid_const s n l a cap H w hT hA hs
    by_cases h1 : k = 1
    · subst h1; exact rvalid_eigen s n l a cap H w hT hA hs hi
    by_cases h2 : k = 2
    · subst h2; exact rvalid_int s n l a cap H w hT hA hs hi
    by_cases h3 : k = 3
    · subst h3; exact rvalid_bound s n l a cap H w hT hA hs hi
    by_cases h4 : k = 4
    · subst h4; exact rvalid_var s n l a cap H w hT hA hs hi
    by_cases h5 : k = 5
    · subst h5
      by_cases hn : n = 0
      · subst hn; exact rvalid_lam0 s l a cap H w hT hA hs hi
      · exact rvalid_lam s n l a cap H w hT hA hs (beq_eq_false_iff_ne.2 hn) hi
    by_cases h6 : k = 6
    · subst h6
      by_cases hl2 : 2 ≤ l.length
      · by_cases hn : n = 0
        · subst hn; exact rvalid_app10 s l a cap H w hT hA hs hl2 hi
        · exact rvalid_app1n s n l a cap H w hT hA hs hl2 (beq_eq_false_iff_ne.2 hn) hi
      · by_cases hn : n = 0
        · subst hn; exact rvalid_app00 s l a cap H w hT hA hs hl2 hi
        · exact rvalid_app0n s n l a cap H w hT hA hs hl2 (beq_eq_false_iff_ne.2 hn) hi
    exact rvalid_other k s n l a cap H w hT hA hs h0 h1 h2 h3 h4 h5 h6 hi
theorem ref_inner (t : Tm) (cs : List Value) (H : GH) (w : World) (hR : Rep H t cs) :
    Calls Try.prog 77 #[.agg cs.toArray] w fun e w' => AnsB e ∧ Below w.heap.size w w' := by
  obtain ⟨a, cap, rfl, -, -, -, -⟩ := hR.open_
  generalize t.k = k
  generalize t.s = s
  generalize t.n = n
  go_enter Try.func77, Try.ntmps77
  go_wp2_with fail
  all_goals
    go_ret
    exact ⟨⟨_, rfl⟩, below_alloc _ _⟩
/-- A number comes back. -/
def AnsI (e : Ending) : Prop := ∃ z, e = .returned (.int .i64 z)
theorem ref_under (t : Tm) (m : Int) (cs : List Value) (H : GH) (w : World) (hR : Rep H t cs) :
    Calls Try.prog 78 #[.agg cs.toArray, .int .i64 m] w fun e w' => AnsI e ∧ Below w.heap.size w w' := by
  obtain ⟨a, cap, rfl, -, -, -, -⟩ := hR.open_
  generalize t.k = k
  generalize t.s = s
  generalize t.n = n
  go_enter Try.func78, Try.ntmps78
  go_wp2_with fail
  all_goals
    go_ret
    exact ⟨⟨_, rfl⟩, below_alloc _ _⟩
end Go.Proofs.Ytbdappbmlnpogaa
namespace Go.Proofs.Ytbdappbmlnpogaa
open Go Go.RowKit
set_option maxRecDepth 100000
abbrev S8 (g : Nat) (k : Int) (s : ByteArray) (n : Int) (v : Value) (b o : Nat) (k' : Int) (s' : ByteArray) (n' : Int) (v' : Value) (w : World) : Prop :=
  w.cell? ⟨g, 0, none⟩ = some (.int .i64 k) ∧ w.cell? ⟨g, 1, none⟩ = some (.string s) ∧ w.cell? ⟨g, 2, none⟩ = some (.int .i64 n) ∧ w.cell? ⟨g, 3, none⟩ = some v ∧ w.cell? ⟨b, o, none⟩ = some (.int .i64 k') ∧ w.cell? ⟨b, o + 1, none⟩ = some (.string s') ∧ w.cell? ⟨b, o + 2, none⟩ = some (.int .i64 n') ∧ w.cell? ⟨b, o + 3, none⟩ = some v'
theorem S8.below {g : Nat} {k : Int} {s : ByteArray} {n : Int} {v : Value} {b o : Nat} {k' : Int} {s' : ByteArray} {n' : Int} {v' : Value} {w w' : World} (h : S8 g k s n v b o k' s' n' v' w) (hb : Below w.heap.size w w') : S8 g k s n v b o k' s' n' v' w' := by
  obtain ⟨h0, h1, h2, h3, h4, h5, h6, h7⟩ := h
  exact ⟨cells4 hb (World.block_lt_of_cell? w _ h0) _ h0, cells4 hb (World.block_lt_of_cell? w _ h1) _ h1, cells4 hb (World.block_lt_of_cell? w _ h2) _ h2, cells4 hb (World.block_lt_of_cell? w _ h3) _ h3, cells4 hb (World.block_lt_of_cell? w _ h4) _ h4, cells4 hb (World.block_lt_of_cell? w _ h5) _ h5, cells4 hb (World.block_lt_of_cell? w _ h6) _ h6, cells4 hb (World.block_lt_of_cell? w _ h7) _ h7⟩
set_option maxHeartbeats 8000000 in
theorem ref_LooseAt (t : Tm) : ∀ (m : Int) (cs : List Value) (H : GH) (w : World), Rep H t cs → Agree H w →
    Calls Try.prog 57 #[.agg cs.toArray, .int .i64 m] w fun e w' => AnsI e ∧ Below w.heap.size w w' := by
  induction t using Tm.ind with
  | h k s n l ih =>
    intro m cs H w hR hA
    have hin := Lib.hid (fun W => ref_inner (.mk k s n l) cs H W hR)
    have hun := Lib.hid (fun W => ref_under (.mk k s n l) m cs H W hR)
    obtain ⟨a, cap, rfl, -, -, hs, hT⟩ := hR.open_
    simp only [Tm.k_mk, Tm.s_mk, Tm.n_mk, Tm.l_mk] at *
    have hlen := hT.len
    have hlm := hlen.2.2
    have hll := hlen.2.1
    unfold maxLen at hlm
    clear hlen hR
    have IH := Lib.hid ih
    clear ih
    have B0 := Lib.hid (show (w.alloc (.cells #[.int .i64 k, .string s, .int .i64 n, .slice a l.length cap] 30 (0, 0))).heap[w.heap.size]? = some (.cells #[.int .i64 k, .string s, .int .i64 n, .slice a l.length cap] 30 (0, 0)) from heap_alloc_new _ _)
    by_cases h3 : k = 3
    · subst h3
      go_enter Try.func57, Try.ntmps57
      go_wp2_with fail
      all_goals
        go_ret
        exact ⟨⟨_, rfl⟩, below_alloc _ _⟩
    · have b3 : (k == 3) = false := beq_eq_false_iff_ne.2 h3
      clear h3
      go_enter Try.func57, Try.ntmps57
      go_wp2_with fail
      refine (hin.out _).mono ?_
      rintro e w1 ⟨⟨b1, rfl⟩, hb1⟩
      have hB1 := Lib.hid (Below.blk hb1 B0.out)
      have HB1 := Lib.hid ((below_alloc w (.cells #[.int .i64 k, .string s, .int .i64 n, .slice a l.length cap] 30)).trans (hb1.mono (below_alloc _ _).size))
      obtain ⟨p0, p1, p2, p3, p4, p5, p6, p7, p8⟩ := box4 hB1.out
      cases b1 with
      | false =>
        go_wp2_with fail
        go_loopw [5, 7] (fun q i wr => ∃ (j : Nat) (z : Int), j ≤ l.length ∧ i = .int .i64 j ∧ q = .int .i64 z ∧ Below w.heap.size w wr ∧ wr.heap[w.heap.size]? = some (.cells #[.int .i64 k, .string s, .int .i64 n, .slice a l.length cap] 30 (0, 0))) (fun _ i _ => l.length - (intOf i).toNat)
        case atStart => exact ⟨0, 0, Nat.zero_le _, rfl, rfl, HB1.out, hB1.out⟩
        case round =>
          obtain ⟨j, z, hj, rfl, rfl, hb, hB⟩ := hrel
          obtain ⟨p0, p1, p2, p3, p4, p5, p6, p7, p8⟩ := box4 hB
          by_cases hlt : j < l.length
          · clear hB
            go_wp2_with fail
            go_ret
            exact ⟨⟨_, rfl⟩, hb⟩
          · have hd2 : decide ((j : Int) < (l.length : Int)) = false := decide_eq_false (by omega)
            clear hB
            go_wp2_with fail
            go_ret
            exact ⟨⟨_, rfl⟩, hb⟩
      | true =>
        go_wp2_with fail
        go_loopw [5, 7] (fun q i wr => ∃ (j : Nat) (z : Int), j ≤ l.length ∧ i = .int .i64 j ∧ q = .int .i64 z ∧ Below w.heap.size w wr ∧ wr.heap[w.heap.size]? = some (.cells #[.int .i64 k, .string s, .int .i64 n, .slice a l.length cap] 30 (0, 0))) (fun _ i _ => l.length - (intOf i).toNat)
        case atStart => exact ⟨0, 0, Nat.zero_le _, rfl, rfl, HB1.out, hB1.out⟩
        case round =>
          obtain ⟨j, z, hj, rfl, rfl, hb, hB⟩ := hrel
          obtain ⟨p0, p1, p2, p3, p4, p5, p6, p7, p8⟩ := box4 hB
          have HBB := Lib.hid hB
          by_cases hlt : j < l.length
          · obtain ⟨x, hx⟩ : ∃ x, l[j]? = some x := ⟨_, List.getElem?_eq_getElem hlt⟩
            have hxm := List.mem_of_getElem? hx
            obtain ⟨b', o, xcs, rfl, -, hRx, hcell⟩ := hT.get hx
            have hA' := hA.below hb
            have hcall := Lib.hid (fun m W hW => IH.out x hxm m xcs H W hRx (hA'.drew.below hW))
            obtain ⟨xa, xc, rfl, -, -, -, -⟩ := hRx.open_
            have c0 := hA'.cell (hcell 0 _ rfl)
            have c1 := hA'.cell (hcell 1 _ rfl)
            have c2 := hA'.cell (hcell 2 _ rfl)
            have c3 := hA'.cell (hcell 3 _ rfl)
            simp only [Nat.add_zero, ← Nat.add_assoc] at c0 c1 c2 c3
            have HT := Lib.hid hT
            have HB2 := Lib.hid hB
            clear hx hcell hxm hB hRx hT
            generalize hxk : x.k = xk at *
            generalize hxs : x.s = xs at *
            generalize hxn : x.n = xn at *
            generalize hxl : x.l.length = xl at *
            have K0 : S8 w.heap.size k s n (.slice (some ⟨b', o, none⟩) l.length cap) b' (o + j * 4) xk xs xn (.slice xa xl xc) wr.drew := ⟨p1, p2, p3, p4, c0, c1, c2, c3⟩
            go_wp2_with fail
            go_region_held3 (fun W => W.cell? ⟨w.heap.size, 0, none⟩ = some (.int .i64 k) ∧ W.cell? ⟨w.heap.size, 1, none⟩ = some (.string s) ∧ W.cell? ⟨w.heap.size, 2, none⟩ = some (.int .i64 n) ∧ W.cell? ⟨w.heap.size, 3, none⟩ = some (.slice (some ⟨b', o, none⟩) l.length cap) ∧ W.cell? ⟨b', o + j * 4, none⟩ = some (.int .i64 xk) ∧ W.cell? ⟨b', o + j * 4 + 1, none⟩ = some (.string xs) ∧ W.cell? ⟨b', o + j * 4 + 2, none⟩ = some (.int .i64 xn) ∧ W.cell? ⟨b', o + j * 4 + 3, none⟩ = some (.slice xa xl xc)) (with_reducible (first | exact K0 | exact K1 | exact K2)) (first | (go_at_call 78; ((with_reducible refine (hun.out _).mono ?_); rintro e w2 ⟨⟨m2, rfl⟩, hb2⟩; have K1 := K0.below hb2)) | (go_at_call 57; ((with_reducible refine (hcall.out _ _ hb2).mono ?_); rintro e w3 ⟨⟨m3, rfl⟩, hb3⟩; have K2 := K1.below hb3)))
            all_goals
              go_wp2_with fail
              go_roundw
              case rel => exact ⟨j + 1, _, by omega, by go_num, rfl, hb.drew.trans ((hb2.trans (hb3.mono hb2.size)).mono hb.size), Below.blk (hb2.trans (hb3.mono hb2.size)) HBB.out⟩
              case measure => simp [intOf]; omega
          · have hd2 : decide ((j : Int) < (l.length : Int)) = false := decide_eq_false (by omega)
            clear hB
            go_wp2_with fail
            go_ret
            exact ⟨⟨_, rfl⟩, hb⟩
end Go.Proofs.Ytbdappbmlnpogaa
namespace Go.Proofs.Ytbdappbmlnpogaa
open Go Go.RowKit
set_option maxRecDepth 100000
/-- A store lies at s, its cells in blocks that are among F. -/
def StR (H : GH) (w : World) (F : Nat → Prop) (s : Nat) (S : St) : Prop :=
  ∃ vi vt, w.heap[s]? = some (.cells #[vi, vt] 64 (0, 0)) ∧ H s = none ∧ F s ∧ Own H w 0 37 6 (RepI H) vi S.V ∧ Own H w 0 3 1 IntP vt S.T ∧
    (∀ g, vi.ownBlock = some g → F g ∧ g ≠ s) ∧ (∀ g, vt.ownBlock = some g → F g ∧ g ≠ s ∧ vi.ownBlock ≠ some g)
theorem StR.ext {H H' : GH} {w w' : World} {F O : Nat → Prop} {s : Nat} {S : St} (h : StR H w F s S) (hx : Ext O H w H' w') (ho : ∀ k, O k → ¬ F k) : StR H' w' F s S := by
  obtain ⟨vi, vt, h1, h2, h3, h4, h5, h6, h7⟩ := h
  exact ⟨vi, vt, (hx.block s (cell_lt h1) (fun h => ho s h h3)).trans h1, (hx.old s (cell_lt h1)).trans h2, h3, h4.ext hx (fun g hg hO => ho g hO (h6 g hg).1) (fun _ _ h => h.mono hx.sub), h5.ext hx (fun g hg hO => ho g hO (h7 g hg).1) (fun _ _ h => h), h6, h7⟩
theorem StR.pure {H H' : GH} {w w' : World} {F : Nat → Prop} {s : Nat} {S : St} (h : StR H w F s S) (hx : Pure H w H' w') : StR H' w' F s S := h.ext hx (fun _ hO => hO.elim)
theorem StR.mono {H : GH} {w : World} {F F' : Nat → Prop} {s : Nat} {S : St} (h : StR H w F s S) (hf : ∀ k, F k → F' k) : StR H w F' s S := by
  obtain ⟨vi, vt, h1, h2, h3, h4, h5, h6, h7⟩ := h
  exact ⟨vi, vt, h1, h2, hf _ h3, h4, h5, fun g hg => ⟨hf _ (h6 g hg).1, (h6 g hg).2⟩, fun g hg => ⟨hf _ (h7 g hg).1, (h7 g hg).2⟩⟩
theorem StR.lt {H : GH} {w : World} {F : Nat → Prop} {s : Nat} {S : St} (h : StR H w F s S) : s < w.heap.size := by
  obtain ⟨vi, vt, h1, -⟩ := h
  exact cell_lt h1
theorem StR.below {H : GH} {w w' : World} {F : Nat → Prop} {s : Nat} {S : St} (h : StR H w F s S) (hA : Agree H w) (hb : Below w.heap.size w w') : StR H w' F s S := h.pure (Ext.of_below hA hb)
def RFreshPost (F : Nat → Prop) (H : GH) (w : World) (s : Nat) (S : St) (level : Int) (e : Ending) (w' : World) : Prop :=
  e = .returned (.int .i64 S.V.length) ∧ Ext F H w H w' ∧ StR H w' (fun k => F k ∨ w.heap.size ≤ k) s (S.fresh level)
set_option maxHeartbeats 4000000 in
theorem rstore_Fresh {F : Nat → Prop} (H : GH) (w : World) (s : Nat) (S : St) (level : Int) (hA : Agree H w) (hS : StR H w F s S) (hl : I64 level) (hn : S.V.length ≤ 1073741824) :
    Calls Try.prog 28 #[.pointer (some ⟨s, 0, none⟩), .int .i64 level] w (RFreshPost F H w s S level) := by
  obtain ⟨vi, vt, h1, h2, h3, h4, h5, h6, h7⟩ := hS
  obtain ⟨hlt, c0, c1, f0, f1⟩ := blk2 h1
  have hbx := below_alloc w (.cells #[.int .i64 (St.top0 level), .bool false, .int .i64 0, .string ⟨#[]⟩, .int .i64 0, .slice none 0 0] 37 (0, 0))
  have hown := h4.below hbx
  have htr := h5.below hbx
  have hfree := h4.free
  have hvi : ∀ g, vi.ownBlock = some g → g < w.heap.size := fun g hg => (h4.lt g hg).2
  have hvt : ∀ g, vt.ownBlock = some g → g < w.heap.size := fun g hg => (h5.lt g hg).2
  obtain ⟨va, vc, rfl, hvc, hvm⟩ := h4.form
  obtain ⟨ta, tc, rfl, -, -⟩ := h5.form
  have hrep : RepI H ⟨St.top0 level, false, Tm.zero⟩ [.int .i64 (St.top0 level), .bool false, .int .i64 0, .string ⟨#[]⟩, .int .i64 0, .slice none 0 0] := ⟨_, rfl, rep_zero H, by show I64 (St.top0 level); unfold I64 St.top0 at *; split <;> omega⟩
  have HREP := Lib.hid hrep
  have H1 := Lib.hid h1
  have hnn : (S.V.length : Int) ≤ 1073741824 := by omega
  have fin : ∀ v' w', Own H w' 0 37 6 (RepI H) v' (S.V ++ [⟨St.top0 level, false, Tm.zero⟩]) → (w.alloc (.cells #[.int .i64 (St.top0 level), .bool false, .int .i64 0, .string ⟨#[]⟩, .int .i64 0, .slice none 0 0] 37 (0, 0))).grownBy w' (Value.slice va S.V.length vc).ownBlock →
      (v'.ownBlock = (Value.slice va S.V.length vc).ownBlock ∨ v'.ownBlock = some (w.heap.size + 1)) → RFreshPost F H w s S level (.returned (.int .i64 S.V.length)) (w'.setCell ⟨s, 0, none⟩ v') := by
    intro v' w' own' hg' hb'
    have hb1 : w'.heap[s]? = some (.cells #[.slice va S.V.length vc, .slice ta S.T.length tc] 64 (0, 0)) :=
      (hg'.block s (by simp; omega) (fun e => (h6 s e.symm).2 rfl)).trans (Below.blk hbx h1)
    have E1 : Ext F H w H w' := ((Ext.refl hA).alloc _).grown hg' hfree (fun g hg _ => (h6 g hg).1)
    have hne : ∀ g, v'.ownBlock = some g → (F g ∨ w.heap.size ≤ g) ∧ g ≠ s := fun g hg => by
      rcases hb' with e | e
      · rw [e] at hg; exact ⟨.inl (h6 g hg).1, (h6 g hg).2⟩
      · rw [e] at hg; injection hg with hg; subst hg; exact ⟨.inr (by omega), by omega⟩
    refine ⟨rfl, E1.setCell (p := ⟨s, 0, none⟩) h2 (fun _ => h3) v', v', _, blk2_set0 hb1, h2, .inl h3, ?_, ?_, hne, fun g hg => ⟨.inl (h7 g hg).1, (h7 g hg).2.1, fun e => ?_⟩⟩
    · exact own'.grown (grown_set w' s 0 v') (fun g hg e => by injection e with e; exact (hne g hg).2 e.symm)
    · refine (htr.grown hg' (fun g hg e => (h7 g hg).2.2 e)).grown (grown_set w' s 0 v') (fun g hg e => by injection e with e; exact (h7 g hg).2.1 e.symm)
    · rcases hb' with e' | e'
      · exact (h7 g hg).2.2 (e'.symm.trans e)
      · rw [e'] at e
        injection e with e
        have := hvt g hg
        omega
  have FIN := Lib.hid fin
  clear fin
  have hbh : (w.alloc (.cells #[.int .i64 (St.top0 level), .bool false, .int .i64 0, .string ⟨#[]⟩, .int .i64 0, .slice none 0 0] 37 (0, 0))).heap[w.heap.size]? = some (.cells #[.int .i64 (St.top0 level), .bool false, .int .i64 0, .string ⟨#[]⟩, .int .i64 0, .slice none 0 0] 37 (0, 0)) := heap_alloc_new _ _
  have HBH := Lib.hid hbh
  have H6 := Lib.hid h6
  clear hbh h6 h7 hvi hvt htr h3
  have hcases : (level < 0 ∧ St.top0 level = 0) ∨ (¬ level < 0 ∧ St.top0 level = level) := by unfold St.top0; split <;> simp_all
  rcases hcases with ⟨hl0, ht⟩ | ⟨hl0, ht⟩
  · rw [ht] at hown FIN HREP HBH hbx
    go_enter Try.func28, Try.ntmps28
    go_wp2_with (at_builtin; go_loud (refine wpList_own1 rfl _ _ rfl isSl_infs (.slice va S.V.length vc) rfl w.heap.size 1 rfl hown (hA.alloc _) (by simp) _ HBH.out _ HREP.out rfl HREP.out.one (by unfold maxLen; omega) (by omega) ?_; intro v1 w1 own1 hg1 hb1; have hbk : w1.heap[s]? = _ := (hg1.block s (by simp; omega) (fun e => (H6.out s e.symm).2 rfl)).trans (Below.blk hbx H1.out); obtain ⟨z0, z1, z2, z3, z4⟩ := blk2 hbk; obtain ⟨xa, xc, rfl, hxl, -⟩ := own1.form))
    go_ret
    have own2 := own1
    have hb2 := hb1
    rw [List.length_append] at own2 hb2
    exact FIN.out _ _ own2 hg1 (by simpa using hb2)
  · rw [ht] at hown FIN HREP HBH hbx
    go_enter Try.func28, Try.ntmps28
    go_wp2_with (at_builtin; go_loud (refine wpList_own1 rfl _ _ rfl isSl_infs (.slice va S.V.length vc) rfl w.heap.size 1 rfl hown (hA.alloc _) (by simp) _ HBH.out _ HREP.out rfl HREP.out.one (by unfold maxLen; omega) (by omega) ?_; intro v1 w1 own1 hg1 hb1; have hbk : w1.heap[s]? = _ := (hg1.block s (by simp; omega) (fun e => (H6.out s e.symm).2 rfl)).trans (Below.blk hbx H1.out); obtain ⟨z0, z1, z2, z3, z4⟩ := blk2 hbk; obtain ⟨xa, xc, rfl, hxl, -⟩ := own1.form))
    go_ret
    have own2 := own1
    have hb2 := hb1
    rw [List.length_append] at own2 hb2
    exact FIN.out _ _ own2 hg1 (by simpa using hb2)
/-- Behind the first store. -/
def RBindMid (F : Nat → Prop) (H : GH) (w : World) (s : Nat) (S' : St) (wx : World) : Prop := Ext F H w H wx ∧ StR H wx F s S'
/-- Behind the second. -/
theorem rbind_fin {F : Nat → Prop} {H : GH} {w w5 w6 : World} {s : Nat} {V : List Inf} {T : List Int} {x : Int} {vi v1 : Value} {ta : Option Addr} {tc : Nat} (hM : Ext F H w H w5) (g1 : w5.heap[s]? = some (.cells #[vi, .slice ta T.length tc] 64 (0, 0))) (g2 : H s = none) (g3 : F s)
    (g4 : Own H w5 0 37 6 (RepI H) vi V) (g5 : Own H w5 0 3 1 IntP (.slice ta T.length tc) T) (g6 : ∀ g, vi.ownBlock = some g → F g ∧ g ≠ s) (g7 : ∀ g, (Value.slice ta T.length tc).ownBlock = some g → F g ∧ g ≠ s ∧ vi.ownBlock ≠ some g)
    (o : Obj) (own : Own H w6 0 3 1 IntP v1 (T ++ [x])) (hg : (w5.alloc o).grownBy w6 (Value.slice ta T.length tc).ownBlock) (hb : v1.ownBlock = (Value.slice ta T.length tc).ownBlock ∨ v1.ownBlock = some (w5.alloc o).heap.size) :
    Ext F H w H (w6.setCell ⟨s, 1, none⟩ v1) ∧ StR H (w6.setCell ⟨s, 1, none⟩ v1) (fun k => F k ∨ w.heap.size ≤ k) s ⟨V, T ++ [x]⟩ := by
  have hlt := cell_lt g1
  have hbx := below_alloc w5 o
  have hb1 : w6.heap[s]? = some (.cells #[vi, .slice ta T.length tc] 64 (0, 0)) :=
    (hg.block s (by simp; omega) (fun e => (g7 s e.symm).2.1 rfl)).trans (Below.blk hbx g1)
  have E1 : Ext F H w H w6 := (hM.alloc o).grown hg g5.free (fun g hg _ => (g7 g hg).1)
  have hw := hM.size
  have hne : ∀ g, v1.ownBlock = some g → (F g ∨ w.heap.size ≤ g) ∧ g ≠ s ∧ vi.ownBlock ≠ some g := fun g hg => by
    rcases hb with e | e
    · rw [e] at hg; exact ⟨.inl (g7 g hg).1, (g7 g hg).2⟩
    · rw [e] at hg; injection hg with hg; subst hg
      refine ⟨.inr (by simp; omega), by simp; omega, fun e => ?_⟩
      have := (g4.lt _ e).2
      simp at this
      omega
  refine ⟨E1.setCell (p := ⟨s, 1, none⟩) g2 (fun _ => g3) v1, vi, v1, blk2_set1 hb1, g2, .inl g3, ?_, ?_, fun g hg => ⟨.inl (g6 g hg).1, (g6 g hg).2⟩, hne⟩
  · exact ((g4.below hbx).grown hg (fun g hg e => (g7 g e).2.2 hg)).grown (grown_set w6 s 1 v1) (fun g hg e => by injection e with e; exact (g6 g hg).2 e.symm)
  · exact own.grown (grown_set w6 s 1 v1) (fun g hg e => by injection e with e; exact (hne g hg).2.1 e.symm)
def RBindPost (F : Nat → Prop) (H : GH) (w : World) (s : Nat) (S : St) (e : Ending) (w' : World) : Prop :=
  ∃ c S', e = .returned (.int .i64 c) ∧ S'.V.length = S.V.length ∧ S'.T.length ≤ S.T.length + 1 ∧ Ext F H w H w' ∧ StR H w' (fun k => F k ∨ w.heap.size ≤ k) s S'
theorem rbind_no {F : Nat → Prop} {H : GH} {w w' : World} {s : Nat} {S : St} (hS : StR H w F s S) (hx : Pure H w H w') : RBindPost F H w s S (.returned (.int .i64 1)) w' :=
  ⟨1, S, rfl, rfl, by omega, hx.mono (fun _ h => h.elim), (hS.pure hx).mono (fun _ h => .inl h)⟩
set_option maxHeartbeats 8000000 in
theorem rstore_Bind {F : Nat → Prop} (H : GH) (w : World) (s : Nat) (S : St) (x : Int) (t : Tm) (cs : List Value) (hA : Agree H w) (hS : StR H w F s S) (hR : Rep H t cs) (hx : I64 x) (hn : S.T.length ≤ 1073741824) :
    Calls Try.prog 30 #[.pointer (some ⟨s, 0, none⟩), .int .i64 x, .agg cs.toArray] w (RBindPost F H w s S) := by
  have h1 := Lib.hid (fun W hW => ref_Valid t cs H W hR hW)
  have h2 := Lib.hid (fun W hW => ref_LooseAt t 0 cs H W hR hW)
  have HR := Lib.hid hR
  obtain ⟨a, cap, rfl, -, -, -, -⟩ := hR.open_
  have E0 := Lib.hid ((Ext.refl (O := fun _ => False) hA).alloc (tbox t a cap))
  have B0 := Lib.hid (heap_alloc_new w (tbox t a cap))
  have HS := Lib.hid hS
  have NO := Lib.hid (fun w' hx => rbind_no (w' := w') hS hx)
  have HX := Lib.hid hx
  clear hS hR hx
  go_enter Try.func30, Try.ntmps30
  go_wp2_with fail
  refine (h1.out _ E0.out.agree).mono ?_
  rintro e w1 ⟨⟨b1, rfl⟩, hb1⟩
  have E1 := Lib.hid (E0.out.then_below hb1)
  have B1 := Lib.hid (Below.blk hb1 B0.out)
  obtain ⟨p0, p1, p2, p3, p4, p5, p6, p7, p8⟩ := box4 B1.out
  obtain ⟨vi, vt, g1, g2, g3, g4, g5, g6, g7⟩ := HS.out.pure E1.out
  obtain ⟨hlt, c0, c1, f0, f1⟩ := blk2 g1
  have HG4 := Lib.hid g4
  obtain ⟨va, vc, rfl, hvl, hvm⟩ := g4.form
  by_cases hx0 : x < 0
  · clear g1 g2 g3 g4 g5 g6 g7
    go_wp2_with fail
    go_ret
    exact NO.out _ E1.out
  · by_cases hxl : (S.V.length : Int) ≤ x
    · clear g1 g2 g3 g4 g5 g6 g7
      go_wp2_with fail
      go_ret
      exact NO.out _ E1.out
    · cases b1 with
      | false =>
        clear g1 g2 g3 g4 g5 g6 g7
        go_wp2_with fail
        go_ret
        exact NO.out _ E1.out
      | true =>
        obtain ⟨j, rfl⟩ : ∃ j : Nat, x = j := ⟨x.toNat, by omega⟩
        have hj : j < S.V.length := by omega
        obtain ⟨i', hi'⟩ : ∃ i', S.V[j]? = some i' := ⟨_, List.getElem?_eq_getElem hj⟩
        obtain ⟨g, gc, gcs, he, -, hP, hcell, -, -, -, hgw⟩ := HG4.out.get (fun _ _ h => h.len) hi'
        cases he
        obtain ⟨gts, rfl, hgR, -⟩ := hP
        obtain ⟨ga, gp, rfl, -, -, -, -⟩ := hgR.open_
        have d0 := hcell 0 _ rfl
        have d1 := hcell 1 _ rfl
        have d2 := hcell 2 _ rfl
        have d3 := hcell 3 _ rfl
        have d4 := hcell 4 _ rfl
        have d5 := hcell 5 _ rfl
        simp only [Nat.add_zero] at d0
        clear hcell hi' g1 g2 g3 g4 g5 g6 g7 hgR
        cases hbd : i'.bd with
        | true =>
          rw [hbd] at d1
          go_wp2_with fail
          go_ret
          exact NO.out _ E1.out
        | false =>
          rw [hbd] at d1
          go_wp2_with fail
          refine (h2.out _ E1.out.agree).mono ?_
          rintro e w2 ⟨⟨z, rfl⟩, hb2⟩
          have E2 := Lib.hid (E1.out.then_below hb2)
          have B2 := Lib.hid (Below.blk hb2 B1.out)
          clear d0 d1 d2 d3 d4 d5 p0 p1 p2 p3 p4 p5 p6 p7 p8 hlt c0 c1 f0 f1
          by_cases hz : 0 < z
          · go_wp2_with fail
            go_ret
            exact NO.out _ E2.out
          · clear NO
            obtain ⟨q0, q1, q2, q3, q4, q5, q6, q7, q8⟩ := box4 B2.out
            obtain ⟨vi, vt, g1, g2, g3, g4, g5, g6, g7⟩ := HS.out.pure E2.out
            obtain ⟨hlt, c0, c1, f0, f1⟩ := blk2 g1
            obtain ⟨i', hi'⟩ : ∃ i', S.V[j]? = some i' := ⟨_, List.getElem?_eq_getElem hj⟩
            obtain ⟨g, gc, gcs, rfl, -, hP, hcell, hfz, hgl, hgm, hgw⟩ := g4.get (fun _ _ h => h.len) hi'
            obtain ⟨ta, tc, rfl, htl, htm⟩ := g5.form
            have hjI : (j : Int) < (S.V.length : Int) := by omega
            have k0 := hfz (j * 6)
            have k1 := hfz (j * 6 + 1)
            have k2 := hfz (j * 6 + 2)
            have k3 := hfz (j * 6 + 3)
            have k4 := hfz (j * 6 + 4)
            have k5 := hfz (j * 6 + 5)
            have HGL := Lib.hid hgl
            obtain ⟨gts, rfl, hgR, hlv⟩ := hP
            obtain ⟨ga, gp, rfl, -, -, -, -⟩ := hgR.open_
            have d0 := hcell 0 _ rfl
            have d1 := hcell 1 _ rfl
            have d2 := hcell 2 _ rfl
            have d3 := hcell 3 _ rfl
            have d4 := hcell 4 _ rfl
            have d5 := hcell 5 _ rfl
            simp only [Nat.add_zero] at d0
            clear hcell hi'
            have hlt3 := cell_lt g1
            have hrow : ∀ vs, Ext F H w H (setRow w2 g (j * 6) vs) := fun vs => Ext.setRow (g4.free g rfl) (fun _ => (g6 g rfl).1) vs _ _ (E2.out.mono (fun _ h => h.elim))
            have hmid : RBindMid F H w s ⟨S.V.set j ⟨i'.lv, true, t⟩, S.T⟩ (setRow w2 g (j * 6) [.int .i64 i'.lv, .bool true, .int .i64 t.k, .string t.s, .int .i64 t.n, .slice a t.l.length cap]) := by
              refine ⟨hrow _, .slice (some ⟨g, 0, none⟩) S.V.length gc, _, (setRow_far (Ne.symm (g6 g rfl).2) _ _ _).trans g1, g2, g3, ?_, ?_, g6, g7⟩
              · exact g4.set rfl hj rfl ⟨_, rfl, HR.out, hlv⟩
              · exact g5.heap fun k hk => setRow_far (fun e => (g7 k hk).2.2 (by rw [e]; rfl)) _ _ _
            rw [setRow6] at hmid
            have HMID := Lib.hid (show RBindMid F H w s _ (World.drew _) from ⟨hmid.1.drew, hmid.2.below hmid.1.agree (Below.refl _ _).drew⟩)
            clear hmid hrow
            go_upto_region 6 with fail
            go_cut [] from 38 (fun wx => RBindMid F H w s ⟨S.V.set j ⟨i'.lv, true, t⟩, S.T⟩ wx)
            case first =>
              go_still_tail 15, (by kernel_rfl)
              change wpList _ _ _ _ _ w2.drew
              go_wp2_with fail
              go_meet
              exact HMID.out
            case rest =>
              clear g1 g2 g3 g4 g5 g6 g7 hlt c0 c1 f0 f1 d0 d1 d2 d3 d4 d5 k0 k1 k2 k3 k4 k5 hgR hfz q0 q1 q2 q3 q4 q5 q6 q7 q8
              obtain ⟨hM, vi, vt, g1, g2, g3, g4, g5, g6, g7⟩ := hcut
              obtain ⟨ta', tc', rfl, htl, htm⟩ := g5.form
              obtain ⟨hlt, c0, c1, f0, f1⟩ := blk2 g1
              have BF := Lib.hid (fun w6 v1 o own hg hb => rbind_fin (w6 := w6) (v1 := v1) (x := (j : Int)) hM g1 g2 g3 g4 g5 g6 g7 o own hg hb)
              have G1 := Lib.hid g1
              have G7 := Lib.hid g7
              have hA5 := hM.agree
              have hown := g5.below (below_alloc wc (.cells #[.int .i64 j] 3))
              clear g1 g2 g3 g4 g5 g6 g7 hM
              simp only [] at hown htl htm c1
              have hx := HX.out
              unfold I64 at hx
              go_wp2_with (at_builtin; go_loud (refine wpList_own1 rfl _ _ rfl isSl_ints (.slice ta' S.T.length tc') rfl wc.heap.size 1 rfl hown (hA5.alloc _) (by simp) _ (heap_alloc_new _ _) (j : Int) ⟨rfl, hx⟩ rfl (by simp; rfl) (by unfold maxLen; omega) (by omega) ?_; intro v1 w1 own1 hg1 hb1; have hbk : w1.heap[s]? = _ := (hg1.block s (by simp; omega) (fun e => (G7.out s e.symm).2.1 rfl)).trans (Below.blk (below_alloc _ _) G1.out); obtain ⟨z0, z1, z2, z3, z4⟩ := blk2 hbk; have FB := BF.out _ _ _ own1 hg1 hb1; obtain ⟨xa, xc, rfl, hxl, -⟩ := own1.form))
              go_ret
              have FB2 := FB
              rw [List.length_append] at FB2
              exact ⟨0, _, rfl, by simp, by simp, FB2⟩
end Go.Proofs.Ytbdappbmlnpogaa
namespace Go.Proofs.Ytbdappbmlnpogaa
open Go Go.RowKit
set_option maxRecDepth 100000
/-- Rows of variables that are laid: Level, Bind, T are as an Info's cells. -/
abbrev Vrs (H : GH) (v : Value) (xs : List Inf) : Prop := Sl H 6 (RepI H) v xs
def SmallV (i : Inf) : Prop := i.vl.size ≤ 12 ∧ i.vl.bnd 1000 = true
def OverPost (w : World) (l : List Inf) (e : Ending) (w' : World) : Prop := ∃ b, e = .returned (.bool b) ∧ Below w.heap.size w w' ∧ (b = false → l.length ≤ 8 ∧ ∀ t ∈ l, SmallV t)
set_option maxHeartbeats 8000000 in
theorem law_over (H : GH) (w : World) (v : Value) (l : List Inf) (hA : Agree H w) (hK : Vrs H v l) :
    Calls Try.prog 6 #[v] w (OverPost w l) := by
  obtain ⟨a, cap, rfl, hll, hlm⟩ := hK.form
  unfold maxLen at hlm
  by_cases h6 : 8 < (l.length : Int)
  · go_enter Try.func6, Try.ntmps6
    go_wp2_with fail
    go_ret
    exact ⟨true, rfl, Below.refl _ _, fun h => by cases h⟩
  · have hd6 : decide (8 < (l.length : Int)) = false := decide_eq_false h6
    go_enter Try.func6, Try.ntmps6
    go_wp2_with fail
    go_loopw [3, 4, 5] (fun i _ _ wr => ∃ (j : Nat), j ≤ l.length ∧ i = .int .i64 j ∧ Below w.heap.size w wr ∧ Hid (∀ (i : Nat) (y : Inf), i < j → l[i]? = some y → SmallV y)) (fun i _ _ _ => l.length - (intOf i).toNat)
    case atStart => exact ⟨0, Nat.zero_le _, rfl, Below.refl _ _, fun i y hi => absurd hi (by omega)⟩
    case round =>
      obtain ⟨j, hj, rfl, hb, hall⟩ := hrel
      by_cases hlt : j < l.length
      · obtain ⟨x, hx⟩ : ∃ x, l[j]? = some x := ⟨_, List.getElem?_eq_getElem hlt⟩
        obtain ⟨b, o, cs6, rfl, -, ⟨cs, rfl, hRx, -⟩, hcell⟩ := hK.get hx
        have hA' := hA.below hb
        have h1 := Lib.hid (ref_Large x.vl 12 cs H wr hRx hA' (by omega) (by omega))
        have h2 := Lib.hid (fun W hW => ref_Near 1000 (by omega) (by omega) x.vl cs H W hRx hW)
        obtain ⟨xa, xc, rfl, -, -, -, -⟩ := hRx.open_
        have c0 := hA'.cell (hcell 2 _ rfl)
        have c1 := hA'.cell (hcell 3 _ rfl)
        have c2 := hA'.cell (hcell 4 _ rfl)
        have c3 := hA'.cell (hcell 5 _ rfl)
        simp only [Nat.add_zero, ← Nat.add_assoc] at c0 c1 c2 c3
        have hbl := World.block_lt_of_cell? wr _ c0
        have HX := Lib.hid hx
        have HA := Lib.hid hA'
        have HC := Lib.hid (And.intro c0 (And.intro c1 (And.intro c2 c3)))
        clear hx hcell hRx hA'
        generalize hlg : decide (x.vl.leftT 12 < 0) = lg at *
        go_wp2_with fail
        refine h1.out.mono ?_
        rintro e w2 ⟨rfl, hb2⟩
        have d0 := ((bcell hb2).1 _ _ hbl).trans HC.out.1
        have d1 := ((bcell hb2).1 _ _ hbl).trans HC.out.2.1
        have d2 := ((bcell hb2).1 _ _ hbl).trans HC.out.2.2.1
        have d3 := ((bcell hb2).1 _ _ hbl).trans HC.out.2.2.2
        have hbl2 : b < w2.heap.size := Nat.lt_of_lt_of_le hbl hb2.size
        clear c0 c1 c2 c3 hbl
        go_wp2_with fail
        refine (h2.out _ (HA.out.below hb2)).mono ?_
        generalize hnr : x.vl.nearT 1000 = nr at *
        rintro e w3 ⟨rfl, hb3⟩
        have hb4 := hb.trans ((hb2.trans (hb3.mono hb2.size)).mono hb.size)
        clear h1 h2 d0 d1 d2 d3
        cases lg with
        | true =>
          go_wp2_with fail
          go_ret
          exact ⟨true, rfl, hb4, fun h => by cases h⟩
        | false =>
          cases nr with
          | false =>
            go_wp2_with fail
            go_ret
            exact ⟨true, rfl, hb4, fun h => by cases h⟩
          | true =>
            have HL := Lib.hid hlg
            have HN := Lib.hid hnr
            clear hlg hnr
            go_wp2_with fail
            go_roundw
            case rel =>
              refine ⟨j + 1, by omega, by go_num, hb4, fun i y hi hy => ?_⟩
              by_cases e : i = j
              · subst e
                rw [HX.out] at hy
                injection hy with hy
                subst hy
                have h0 : 0 ≤ x.vl.leftT 12 := by have := of_decide_eq_false HL.out; omega
                have := Tm.left_size x.vl 12 h0
                exact ⟨by omega, Tm.near_bnd 1000 x.vl HN.out⟩
              · exact hall.out i y (by omega) hy
            case measure => simp [intOf]; omega
      · have hd3 : decide ((j : Int) < (l.length : Int)) = false := decide_eq_false (by omega)
        have HJ := Lib.hid (show j = l.length by omega)
        go_wp2_with fail
        go_ret
        refine ⟨false, rfl, hb, fun _ => ⟨by omega, fun t ht => ?_⟩⟩
        obtain ⟨i, hi⟩ := List.getElem?_of_mem ht
        exact hall.out i t (by have := (List.getElem?_eq_some_iff.1 hi).1; have := HJ.out; omega) hi
end Go.Proofs.Ytbdappbmlnpogaa
