/- The document's small functions on terms: Large, Near. The document's small functions on terms: Near, Same. The document's Same. The document's examples, on plain data. The document's examples: the calls. The document's examples hold: works, walked. The law's row: are terms more than is looked at? -/
import Derived.Test.YtbdappbmlnpogaaBP11
import Derived.Laws.Strings
namespace Go.Proofs.Ytbdappbmlnpogaa
open Go Go.RowKit
set_option maxRecDepth 100000
namespace Tm
mutual
/-- What is left of a number when a term's parts have been counted. -/
def leftT : Tm → Int → Int | .mk _ _ _ l, n => leftL l (n - 1)
def leftL : List Tm → Int → Int | [], n => n | t :: ts, n => if 0 ≤ n then leftL ts (t.leftT n) else n
end
theorem leftT_mk (k s n l m) : (mk k s n l).leftT m = leftL l (m - 1) := by rw [leftT]
theorem leftL_nil (n) : leftL [] n = n := by rw [leftL]
theorem leftL_cons (t ts n) : leftL (t :: ts) n = if 0 ≤ n then leftL ts (t.leftT n) else n := by rw [leftL]
theorem leftL_neg (l : List Tm) (n : Int) (h : n < 0) : leftL l n = n := by
  cases l with
  | nil => rw [leftL]
  | cons x xs => rw [leftL, if_neg (by omega)]
theorem left_bd (t : Tm) : ∀ n, 0 ≤ n → -1 ≤ t.leftT n ∧ t.leftT n ≤ n - 1 := by
  induction t using ind with
  | h k s m l ih =>
    have hl : ∀ n, -1 ≤ n → -1 ≤ leftL l n ∧ leftL l n ≤ n := by
      induction l with
      | nil => intro n hn; rw [leftL]; omega
      | cons x xs ihx =>
        intro n hn
        rw [leftL]
        split
        · have h1 := ih x (by simp) n (by omega)
          have h2 := ihx (fun t ht => ih t (by simp [ht])) (x.leftT n) (by omega)
          omega
        · omega
    intro n hn
    rw [leftT]
    exact hl (n - 1) (by omega)
theorem left_size (t : Tm) : ∀ n, 0 ≤ t.leftT n → (t.size : Int) = n - t.leftT n := by
  induction t using ind with
  | h k s m l ih =>
    have hl : ∀ n, 0 ≤ leftL l n → (sizeL l : Int) = n - leftL l n := by
      induction l with
      | nil => intro n _; rw [leftL]; simp
      | cons x xs ihx =>
        intro n hn
        rw [leftL] at hn ⊢
        split at hn
        · rename_i h0
          rw [if_pos h0]
          have h2 := ihx (fun t ht => ih t (by simp [ht])) (x.leftT n) hn
          have h3 : 0 ≤ x.leftT n := by
            by_cases h : x.leftT n < 0
            · rw [leftL_neg xs _ h] at hn; omega
            · omega
          have h1 := ih x (by simp) n h3
          rw [sizeL_cons]; push_cast; omega
        · omega
    intro n hn
    rw [leftT] at hn ⊢
    rw [size_mk]
    have := hl (n - 1) hn
    push_cast; omega
mutual
/-- Are all numbers but integers near zero? -/
def nearT (n : Int) : Tm → Bool | .mk k _ m l => ((k == 2) || (!decide (n < m) && !decide (m < -n))) && nearL n l
def nearL (n : Int) : List Tm → Bool | [] => true | t :: ts => t.nearT n && nearL n ts
end
theorem nearT_mk (n k s m l) : nearT n (mk k s m l) = (((k == 2) || (!decide (n < m) && !decide (m < -n))) && nearL n l) := by rw [nearT]
theorem nearL_iff (n : Int) (l : List Tm) : nearL n l = true ↔ ∀ t ∈ l, nearT n t = true := by
  induction l with
  | nil => rw [nearL]; simp
  | cons x xs ih => rw [nearL]; simp [ih]
theorem near_bnd (n : Int) (t : Tm) : nearT n t = true → t.bnd n = true := by
  induction t using ind with
  | h k s m l ih =>
    intro h
    rw [nearT_mk, Bool.and_eq_true, nearL_iff] at h
    rw [bnd_iff]
    refine ⟨fun hk => ?_, fun t ht => ih t ht (h.2 t ht)⟩
    have := h.1
    subst hk
    simp at this
    omega
end Tm
set_option maxHeartbeats 2000000 in
theorem ref_left (t : Tm) : ∀ (n : Int) (cs : List Value) (H : GH) (w : World), Rep H t cs → Agree H w → 0 ≤ n → n ≤ 1099511627776 →
    Calls Try.prog 47 #[.agg cs.toArray, .int .i64 n] w fun e w' => e = .returned (.int .i64 (t.leftT n)) ∧ Below w.heap.size w w' := by
  induction t using Tm.ind with
  | h k s m l ih =>
    intro n cs H w hR hA hn0 hn1
    have hg := Lib.hid (Tm.leftT_mk k s m l n)
    obtain ⟨a, cap, rfl, -, -, -, hl⟩ := hR.open_
    simp only [Tm.k_mk, Tm.s_mk, Tm.n_mk, Tm.l_mk] at *
    have hw1 := IntWalk.i64_in (n - 1) (by omega)
    have B0 := Lib.hid (show (w.alloc (.cells #[.int .i64 k, .string s, .int .i64 m, .slice a l.length cap] 30 (0, 0))).heap[w.heap.size]? = some (.cells #[.int .i64 k, .string s, .int .i64 m, .slice a l.length cap] 30 (0, 0)) from heap_alloc_new _ _)
    have hlen := hl.len
    have hlm := hlen.2.2
    have hll := hlen.2.1
    unfold maxLen at hlm
    clear hlen
    go_enter Try.func47, Try.ntmps47
    go_wp2_with fail
    go_loopw [5, 6] (fun q i wr => ∃ (j : Nat) (v : Int), j ≤ l.length ∧ i = .int .i64 j ∧ q = .int .i64 v ∧ -1 ≤ v ∧ v ≤ n ∧ Tm.leftL l (n - 1) = Tm.leftL (l.drop j) v ∧ Below w.heap.size w wr ∧ wr.heap[w.heap.size]? = some (.cells #[.int .i64 k, .string s, .int .i64 m, .slice a l.length cap] 30 (0, 0))) (fun _ i _ => l.length - (intOf i).toNat)
    case atStart => exact ⟨0, n - 1, Nat.zero_le _, rfl, rfl, by omega, by omega, by simp, below_alloc _ _, B0.out⟩
    case round =>
      obtain ⟨j, v, hj, rfl, rfl, hv0, hv1, hL, hb, hB⟩ := hrel
      obtain ⟨p0, p1, p2, p3, p4, p5, p6, p7, p8⟩ := box4 hB
      have HBB := Lib.hid hB
      by_cases hlt : j < l.length
      · by_cases hv : 0 ≤ v
        · obtain ⟨x, hx⟩ : ∃ x, l[j]? = some x := ⟨_, List.getElem?_eq_getElem hlt⟩
          have hxm := List.mem_of_getElem? hx
          have hdr : l.drop j = x :: l.drop (j + 1) := by
            rw [List.drop_eq_getElem_cons hlt]
            rw [List.getElem?_eq_getElem hlt] at hx
            injection hx with hx
            rw [hx]
          obtain ⟨b, o, xcs, rfl, -, hRx, hcell⟩ := hl.get hx
          have hA' := hA.below hb
          have hcall := Lib.hid (fun W hW => ih x hxm v xcs H W hRx (hA'.below hW) hv (by omega))
          have hbd := Tm.left_bd x v hv
          rw [hdr, Tm.leftL_cons, if_pos hv] at hL
          obtain ⟨xa, xc, rfl, -, -, -, -⟩ := hRx.open_
          have c0 := hA'.cell (hcell 0 _ rfl)
          have c1 := hA'.cell (hcell 1 _ rfl)
          have c2 := hA'.cell (hcell 2 _ rfl)
          have c3 := hA'.cell (hcell 3 _ rfl)
          simp only [Nat.add_zero, ← Nat.add_assoc] at c0 c1 c2 c3
          have hbl := World.block_lt_of_cell? wr _ c0
          have HL := Lib.hid hL
          generalize hz : x.leftT v = z at *
          obtain ⟨hbd1, hbd2⟩ := hbd
          clear hL hx hcell hdr hRx hxm hB
          go_wp2_with fail
          refine (hcall.out _ (Below.refl _ _)).mono ?_
          rintro e w2 ⟨rfl, hb2⟩
          go_wp2_with fail
          go_roundw
          case rel => exact ⟨j + 1, z, by omega, by go_num, rfl, by omega, by omega, HL.out, hb.trans (hb2.mono hb.size), Below.blk hb2 HBB.out⟩
          case measure => simp [intOf]; omega
        · have HL := Lib.hid hL
          have hd : decide (0 ≤ v) = false := decide_eq_false hv
          clear hL hB
          go_wp2_with fail
          go_ret
          refine ⟨?_, hb⟩
          rw [hg.out, HL.out, Tm.leftL_neg _ _ (by omega)]
          rfl
      · have hjl : j = l.length := by omega
        have HL := Lib.hid hL
        have HJ := Lib.hid hjl
        have hd2 : decide ((j : Int) < (l.length : Int)) = false := decide_eq_false (by omega)
        clear hL hjl hB
        go_wp2_with fail
        go_ret
        refine ⟨?_, hb⟩
        rw [hg.out, HL.out, HJ.out, List.drop_length, Tm.leftL_nil]
        rfl
theorem ref_Large (t : Tm) (n : Int) (cs : List Value) (H : GH) (w : World) (hR : Rep H t cs) (hA : Agree H w) (h0 : 0 ≤ n) (h1 : n ≤ 1099511627776) :
    Calls Try.prog 22 #[.agg cs.toArray, .int .i64 n] w fun e w' => e = .returned (.bool (decide (t.leftT n < 0))) ∧ Below w.heap.size w w' := by
  have hl := Lib.hid (fun W hW => ref_left t n cs H W hR hW h0 h1)
  obtain ⟨a, cap, rfl, -, -, -, -⟩ := hR.open_
  go_enter Try.func22, Try.ntmps22
  go_wp2_with fail
  refine (hl.out _ (hA.alloc _)).mono ?_
  generalize hz : t.leftT n = z
  rintro e w1 ⟨rfl, hb⟩
  go_wp2_with fail
  go_ret
  exact ⟨ret_bool (by simp [hz]), (below_alloc _ _).trans (hb.mono (below_alloc _ _).size)⟩
end Go.Proofs.Ytbdappbmlnpogaa
namespace Go.Proofs.Ytbdappbmlnpogaa
open Go Go.RowKit
set_option maxRecDepth 100000
set_option maxHeartbeats 4000000 in
theorem ref_Near (n : Int) (hn0 : 0 ≤ n) (hn1 : n ≤ 1099511627776) (t : Tm) : ∀ (cs : List Value) (H : GH) (w : World), Rep H t cs → Agree H w →
    Calls Try.prog 23 #[.agg cs.toArray, .int .i64 n] w fun e w' => e = .returned (.bool (t.nearT n)) ∧ Below w.heap.size w w' := by
  induction t using Tm.ind with
  | h k s m l ih =>
    intro cs H w hR hA
    have hg := Lib.hid (Tm.nearT_mk n k s m l)
    obtain ⟨a, cap, rfl, -, -, -, hl⟩ := hR.open_
    simp only [Tm.k_mk, Tm.s_mk, Tm.n_mk, Tm.l_mk] at *
    have hw1 := IntWalk.i64_in (-n) (by omega)
    have B0 := Lib.hid (show (w.alloc (.cells #[.int .i64 k, .string s, .int .i64 m, .slice a l.length cap] 30 (0, 0))).heap[w.heap.size]? = some (.cells #[.int .i64 k, .string s, .int .i64 m, .slice a l.length cap] 30 (0, 0)) from heap_alloc_new _ _)
    have hlen := hl.len
    have hlm := hlen.2.2
    have hll := hlen.2.1
    unfold maxLen at hlm
    clear hlen
    have key : (k == 2) = true ∨ ((k == 2) = false ∧ (n < m ∨ (¬ n < m ∧ (m < -n ∨ ¬ m < -n)))) := by
      cases (k == 2) with
      | true => exact .inl rfl
      | false => exact .inr ⟨rfl, by omega⟩
    have stop : Hid ((k == 2) = false → (n < m ∨ m < -n) → (Tm.mk k s m l).nearT n = false) := Lib.hid (fun h1 h2 => by
      rw [hg.out, h1]
      rcases h2 with h | h
      · rw [decide_eq_true h]; rfl
      · rw [decide_eq_true (p := m < -n) h]; simp)
    have go : Hid (((k == 2) = true ∨ (¬ n < m ∧ ¬ m < -n)) → (Tm.mk k s m l).nearT n = Tm.nearL n l) := Lib.hid (fun h => by
      rw [hg.out]
      rcases h with h | h
      · rw [h]; simp
      · rw [decide_eq_false h.1, decide_eq_false h.2]; simp)
    rcases key with b | ⟨b, b1 | ⟨b1, b2 | b2⟩⟩
    · have hgo := Lib.hid (go.out (.inl b))
      have b' : (k != 2) = false := by rw [bne, b]; rfl
      go_enter Try.func23, Try.ntmps23
      go_wp2_with fail
      go_loopw [5, 6] (fun i q wr => ∃ (j : Nat), j ≤ l.length ∧ i = .int .i64 j ∧ Below w.heap.size w wr ∧ wr.heap[w.heap.size]? = some (.cells #[.int .i64 k, .string s, .int .i64 m, .slice a l.length cap] 30 (0, 0)) ∧ Hid (∀ (i : Nat) (y : Tm), i < j → l[i]? = some y → y.nearT n = true)) (fun i _ _ => l.length - (intOf i).toNat)
      case atStart => exact ⟨0, Nat.zero_le _, rfl, below_alloc _ _, B0.out, fun i y hi => absurd hi (by omega)⟩
      case round =>
        obtain ⟨j, hj, rfl, hb, hB, hall⟩ := hrel
        obtain ⟨p0, p1, p2, p3, p4, p5, p6, p7, p8⟩ := box4 hB
        have HBB := Lib.hid hB
        by_cases hlt : j < l.length
        · obtain ⟨x, hx⟩ : ∃ x, l[j]? = some x := ⟨_, List.getElem?_eq_getElem hlt⟩
          have hxm := List.mem_of_getElem? hx
          obtain ⟨b', o, xcs, rfl, -, hRx, hcell⟩ := hl.get hx
          have hA' := hA.below hb
          have hcall := Lib.hid (fun W hW => ih x hxm xcs H W hRx (hA'.below hW))
          obtain ⟨xa, xc, rfl, -, -, -, -⟩ := hRx.open_
          have c0 := hA'.cell (hcell 0 _ rfl)
          have c1 := hA'.cell (hcell 1 _ rfl)
          have c2 := hA'.cell (hcell 2 _ rfl)
          have c3 := hA'.cell (hcell 3 _ rfl)
          simp only [Nat.add_zero, ← Nat.add_assoc] at c0 c1 c2 c3
          have hbl := World.block_lt_of_cell? wr _ c0
          have HX := Lib.hid hx
          have HXM := Lib.hid hxm
          clear hx hcell hRx hxm hB
          cases hz : x.nearT n with
          | true =>
            have HZ := Lib.hid hz
            rw [hz] at hcall
            clear hz
            go_wp2_with fail
            refine (hcall.out _ (Below.refl _ _)).mono ?_
            rintro e w2 ⟨rfl, hb2⟩
            go_wp2_with fail
            go_roundw
            case rel =>
              refine ⟨j + 1, by omega, by go_num, hb.trans (hb2.mono hb.size), Below.blk hb2 HBB.out, fun i y hi hy => ?_⟩
              by_cases e : i = j
              · subst e
                rw [HX.out] at hy
                injection hy with hy
                subst hy
                exact HZ.out
              · exact hall.out i y (by omega) hy
            case measure => simp [intOf]; omega
          | false =>
            have HZ := Lib.hid hz
            rw [hz] at hcall
            clear hz
            go_wp2_with fail
            refine (hcall.out _ (Below.refl _ _)).mono ?_
            rintro e w2 ⟨rfl, hb2⟩
            go_wp2_with fail
            go_ret
            refine ⟨?_, hb.trans (hb2.mono hb.size)⟩
            rw [hgo.out]
            have : Tm.nearL n l = false := by
              cases h : Tm.nearL n l with
              | false => rfl
              | true => have := (Tm.nearL_iff n l).1 h x HXM.out; rw [HZ.out] at this; cases this
            rw [this]; rfl
        · have hd3 : decide ((j : Int) < (l.length : Int)) = false := decide_eq_false (by omega)
          have HJ := Lib.hid (show j = l.length by omega)
          clear hB
          go_wp2_with fail
          go_ret
          refine ⟨?_, hb⟩
          rw [hgo.out]
          have : Tm.nearL n l = true := (Tm.nearL_iff n l).2 fun y hy => by
            obtain ⟨i, hi⟩ := List.getElem?_of_mem hy
            exact hall.out i y (by have := (List.getElem?_eq_some_iff.1 hi).1; have := HJ.out; omega) hi
          rw [this]; rfl
    · have hst := Lib.hid (stop.out b (.inl b1))
      have b' : (k != 2) = true := by rw [bne, b]; rfl
      have hd1 : decide (n < m) = true := decide_eq_true b1
      go_enter Try.func23, Try.ntmps23
      go_wp2_with fail
      go_ret
      exact ⟨by rw [hst.out]; rfl, below_alloc _ _⟩
    · have hst := Lib.hid (stop.out b (.inr b2))
      have b' : (k != 2) = true := by rw [bne, b]; rfl
      have hd1 : decide (n < m) = false := decide_eq_false b1
      have hd2 : decide (m < -n) = true := decide_eq_true b2
      go_enter Try.func23, Try.ntmps23
      go_wp2_with fail
      go_ret
      exact ⟨by rw [hst.out]; rfl, below_alloc _ _⟩
    · have hgo := Lib.hid (go.out (.inr ⟨b1, b2⟩))
      have b' : (k != 2) = true := by rw [bne, b]; rfl
      have hd1 : decide (n < m) = false := decide_eq_false b1
      have hd2 : decide (m < -n) = false := decide_eq_false b2
      go_enter Try.func23, Try.ntmps23
      go_wp2_with fail
      go_loopw [5, 6] (fun i q wr => ∃ (j : Nat), j ≤ l.length ∧ i = .int .i64 j ∧ Below w.heap.size w wr ∧ wr.heap[w.heap.size]? = some (.cells #[.int .i64 k, .string s, .int .i64 m, .slice a l.length cap] 30 (0, 0)) ∧ Hid (∀ (i : Nat) (y : Tm), i < j → l[i]? = some y → y.nearT n = true)) (fun i _ _ => l.length - (intOf i).toNat)
      case atStart => exact ⟨0, Nat.zero_le _, rfl, below_alloc _ _, B0.out, fun i y hi => absurd hi (by omega)⟩
      case round =>
        obtain ⟨j, hj, rfl, hb, hB, hall⟩ := hrel
        obtain ⟨p0, p1, p2, p3, p4, p5, p6, p7, p8⟩ := box4 hB
        have HBB := Lib.hid hB
        by_cases hlt : j < l.length
        · obtain ⟨x, hx⟩ : ∃ x, l[j]? = some x := ⟨_, List.getElem?_eq_getElem hlt⟩
          have hxm := List.mem_of_getElem? hx
          obtain ⟨b', o, xcs, rfl, -, hRx, hcell⟩ := hl.get hx
          have hA' := hA.below hb
          have hcall := Lib.hid (fun W hW => ih x hxm xcs H W hRx (hA'.below hW))
          obtain ⟨xa, xc, rfl, -, -, -, -⟩ := hRx.open_
          have c0 := hA'.cell (hcell 0 _ rfl)
          have c1 := hA'.cell (hcell 1 _ rfl)
          have c2 := hA'.cell (hcell 2 _ rfl)
          have c3 := hA'.cell (hcell 3 _ rfl)
          simp only [Nat.add_zero, ← Nat.add_assoc] at c0 c1 c2 c3
          have hbl := World.block_lt_of_cell? wr _ c0
          have HX := Lib.hid hx
          have HXM := Lib.hid hxm
          clear hx hcell hRx hxm hB
          cases hz : x.nearT n with
          | true =>
            have HZ := Lib.hid hz
            rw [hz] at hcall
            clear hz
            go_wp2_with fail
            refine (hcall.out _ (Below.refl _ _)).mono ?_
            rintro e w2 ⟨rfl, hb2⟩
            go_wp2_with fail
            go_roundw
            case rel =>
              refine ⟨j + 1, by omega, by go_num, hb.trans (hb2.mono hb.size), Below.blk hb2 HBB.out, fun i y hi hy => ?_⟩
              by_cases e : i = j
              · subst e
                rw [HX.out] at hy
                injection hy with hy
                subst hy
                exact HZ.out
              · exact hall.out i y (by omega) hy
            case measure => simp [intOf]; omega
          | false =>
            have HZ := Lib.hid hz
            rw [hz] at hcall
            clear hz
            go_wp2_with fail
            refine (hcall.out _ (Below.refl _ _)).mono ?_
            rintro e w2 ⟨rfl, hb2⟩
            go_wp2_with fail
            go_ret
            refine ⟨?_, hb.trans (hb2.mono hb.size)⟩
            rw [hgo.out]
            have : Tm.nearL n l = false := by
              cases h : Tm.nearL n l with
              | false => rfl
              | true => have := (Tm.nearL_iff n l).1 h x HXM.out; rw [HZ.out] at this; cases this
            rw [this]; rfl
        · have hd3 : decide ((j : Int) < (l.length : Int)) = false := decide_eq_false (by omega)
          have HJ := Lib.hid (show j = l.length by omega)
          clear hB
          go_wp2_with fail
          go_ret
          refine ⟨?_, hb⟩
          rw [hgo.out]
          have : Tm.nearL n l = true := (Tm.nearL_iff n l).2 fun y hy => by
            obtain ⟨i, hi⟩ := List.getElem?_of_mem hy
            exact hall.out i y (by have := (List.getElem?_eq_some_iff.1 hi).1; have := HJ.out; omega) hi
          rw [this]; rfl
end Go.Proofs.Ytbdappbmlnpogaa
namespace Go.Proofs.Ytbdappbmlnpogaa
open Go Go.RowKit
set_option maxRecDepth 100000
set_option maxHeartbeats 8000000 in
theorem ref_Same (t : Tm) : ∀ (u : Tm) (cs ds : List Value) (H : GH) (w : World), Rep H t cs → Rep H u ds → Agree H w →
    Calls Try.prog 15 #[.agg cs.toArray, .agg ds.toArray] w fun e w' => e = .returned (.bool (t.same u)) ∧ Below w.heap.size w w' := by
  induction t using Tm.ind with
  | h k s m l ih =>
    intro u cs ds H w hR hU hA
    cases u with
    | mk k2 s2 m2 l2 =>
    have ht := Lib.hid (Tm.same_iff (.mk k s m l) (.mk k2 s2 m2 l2))
    have no : Hid (∀ h : ¬ (Tm.mk k s m l = Tm.mk k2 s2 m2 l2), (Tm.mk k s m l).same (.mk k2 s2 m2 l2) = false) := Lib.hid (fun h => by
      cases hh : (Tm.mk k s m l).same (.mk k2 s2 m2 l2) with
      | false => rfl
      | true => exact absurd (ht.out.1 hh) h)
    obtain ⟨a, cap, rfl, -, -, -, hl⟩ := hR.open_
    obtain ⟨a2, cap2, rfl, -, -, -, hl2⟩ := hU.open_
    simp only [Tm.k_mk, Tm.s_mk, Tm.n_mk, Tm.l_mk] at *
    have hlen := hl.len
    have hlm := hlen.2.2
    have hll := hlen.2.1
    have hlen2 := hl2.len
    have hlm2 := hlen2.2.2
    have hll2 := hlen2.2.1
    unfold maxLen at hlm hlm2
    have B0 := Lib.hid (show ((w.alloc (.cells #[.int .i64 k, .string s, .int .i64 m, .slice a l.length cap] 30 (0, 0))).alloc (.cells #[.int .i64 k2, .string s2, .int .i64 m2, .slice a2 l2.length cap2] 30 (0, 0))).heap[w.heap.size]? = some (.cells #[.int .i64 k, .string s, .int .i64 m, .slice a l.length cap] 30 (0, 0)) from Below.blk (below_alloc _ _) (heap_alloc_new _ _))
    have B1 := Lib.hid (show ((w.alloc (.cells #[.int .i64 k, .string s, .int .i64 m, .slice a l.length cap] 30 (0, 0))).alloc (.cells #[.int .i64 k2, .string s2, .int .i64 m2, .slice a2 l2.length cap2] 30 (0, 0))).heap[w.heap.size + 1]? = some (.cells #[.int .i64 k2, .string s2, .int .i64 m2, .slice a2 l2.length cap2] 30 (0, 0)) from heap_alloc_at _ _ _ (by simp))
    have BW : Below w.heap.size w ((w.alloc (.cells #[.int .i64 k, .string s, .int .i64 m, .slice a l.length cap] 30 (0, 0))).alloc (.cells #[.int .i64 k2, .string s2, .int .i64 m2, .slice a2 l2.length cap2] 30 (0, 0))) := (below_alloc _ _).trans ((below_alloc _ _).mono (below_alloc _ _).size)
    have BW := Lib.hid BW
    clear hlen hlen2 hR hU
    cases hk : (k == k2) with
    | false =>
      have hk' : (k != k2) = true := by rw [bne, hk]; rfl
      have hn := Lib.hid (no.out (fun h => by injection h with h; exact beq_eq_false_iff_ne.1 hk h))
      go_enter Try.func15, Try.ntmps15
      go_wp2_with fail
      go_ret
      exact ⟨by rw [hn.out]; rfl, BW.out⟩
    | true =>
      have hk' : (k != k2) = false := by rw [bne, hk]; rfl
      by_cases hs : s = s2
      · subst hs
        cases hm : (m == m2) with
        | false =>
          have hm' : (m != m2) = true := by rw [bne, hm]; rfl
          have hn := Lib.hid (no.out (fun h => by injection h with _ _ h; exact beq_eq_false_iff_ne.1 hm h))
          go_enter Try.func15, Try.ntmps15
          go_wp2_with fail
          go_ret
          exact ⟨by rw [hn.out]; rfl, BW.out⟩
        | true =>
          have hm' : (m != m2) = false := by rw [bne, hm]; rfl
          by_cases hln : l.length = l2.length
          · have hk2 : k = k2 := beq_iff_eq.1 hk
            have hm2 : m = m2 := beq_iff_eq.1 hm
            subst hk2
            subst hm2
            clear hk hk' hm hm'
            have yes : Hid ((∀ (i : Nat) (y z : Tm), l[i]? = some y → l2[i]? = some z → y.same z = true) → (Tm.mk k s m l).same (Tm.mk k s m l2) = true) := Lib.hid (fun h => ht.out.2 (by
              congr 1
              refine List.ext_getElem hln (fun i h1 h2 => ?_)
              exact (Tm.same_iff _ _).1 (h i _ _ (List.getElem?_eq_getElem h1) (List.getElem?_eq_getElem h2))))
            have hl1 : ((l.length : Int) == (l2.length : Int)) = true := beq_iff_eq.2 (by omega)
            have hl2' : ((l.length : Int) != (l2.length : Int)) = false := by rw [bne, hl1]; rfl
            have hl3 : (l.length == l2.length) = true := beq_iff_eq.2 hln
            have hl4 : (l.length != l2.length) = false := by rw [bne, hl3]; rfl
            have HLN := Lib.hid hln
            clear hln
            go_enter Try.func15, Try.ntmps15
            go_wp2_with fail
            go_loopw [5, 6] (fun i q wr => ∃ (j : Nat), j ≤ l.length ∧ i = .int .i64 j ∧ Below w.heap.size w wr ∧ wr.heap[w.heap.size]? = some (.cells #[.int .i64 k, .string s, .int .i64 m, .slice a l.length cap] 30 (0, 0)) ∧ wr.heap[w.heap.size + 1]? = some (.cells #[.int .i64 k, .string s, .int .i64 m, .slice a2 l2.length cap2] 30 (0, 0)) ∧ Hid (∀ (i : Nat) (y z : Tm), i < j → l[i]? = some y → l2[i]? = some z → y.same z = true)) (fun i _ _ => l.length - (intOf i).toNat)
            case atStart => exact ⟨0, Nat.zero_le _, rfl, BW.out, B0.out, B1.out, fun i y z hi => absurd hi (by omega)⟩
            case round =>
              obtain ⟨j, hj, rfl, hb, hB, hB', hall⟩ := hrel
              obtain ⟨p0, p1, p2, p3, p4, p5, p6, p7, p8⟩ := box4 hB
              obtain ⟨q0, q1, q2, q3, q4, q5, q6, q7, q8⟩ := box4 hB'
              have HBB := Lib.hid hB
              have HBB' := Lib.hid hB'
              by_cases hlt : j < l.length
              · obtain ⟨x, hx⟩ : ∃ x, l[j]? = some x := ⟨_, List.getElem?_eq_getElem hlt⟩
                have hlt2 : j < l2.length := by have := HLN.out; omega
                obtain ⟨z, hz⟩ : ∃ z, l2[j]? = some z := ⟨_, List.getElem?_eq_getElem hlt2⟩
                have hxm := List.mem_of_getElem? hx
                obtain ⟨b', o, xcs, rfl, -, hRx, hcell⟩ := hl.get hx
                obtain ⟨b2, o2, zcs, rfl, -, hRz, hcell2⟩ := hl2.get hz
                have hA' := hA.below hb
                have hcall := Lib.hid (ih x hxm z xcs zcs H wr.drew hRx hRz hA'.drew)
                obtain ⟨xa, xc, rfl, -, -, -, -⟩ := hRx.open_
                obtain ⟨za, zc, rfl, -, -, -, -⟩ := hRz.open_
                have c0 := hA'.cell (hcell 0 _ rfl)
                have c1 := hA'.cell (hcell 1 _ rfl)
                have c2 := hA'.cell (hcell 2 _ rfl)
                have c3 := hA'.cell (hcell 3 _ rfl)
                have d0 := hA'.cell (hcell2 0 _ rfl)
                have d1 := hA'.cell (hcell2 1 _ rfl)
                have d2 := hA'.cell (hcell2 2 _ rfl)
                have d3 := hA'.cell (hcell2 3 _ rfl)
                simp only [Nat.add_zero, ← Nat.add_assoc] at c0 c1 c2 c3 d0 d1 d2 d3
                have hbl := World.block_lt_of_cell? wr _ c0
                have HX := Lib.hid hx
                have HZ := Lib.hid hz
                have hltI : (j : Int) < (l.length : Int) := by omega
                have hltI2 : (j : Int) < (l2.length : Int) := by omega
                clear hx hz hcell hcell2 hRx hRz hxm hB hB'
                cases hzz : x.same z with
                | true =>
                  have HZZ := Lib.hid hzz
                  rw [hzz] at hcall
                  clear hzz
                  go_wp2_with fail
                  go_still_tail 10, (by kernel_rfl)
                  change wpList _ _ _ _ _ wr.drew
                  go_wp2_with fail
                  refine hcall.out.mono ?_
                  rintro e w2 ⟨rfl, hb2⟩
                  have hb3 := ((Below.refl _ wr).drew).trans hb2
                  go_wp2_with fail
                  go_roundw
                  case rel =>
                    refine ⟨j + 1, by omega, by go_num, hb.trans (hb3.mono hb.size), Below.blk hb3 HBB.out, Below.blk hb3 HBB'.out, fun i y z' hi hy hz' => ?_⟩
                    by_cases e : i = j
                    · subst e
                      rw [HX.out] at hy
                      rw [HZ.out] at hz'
                      injection hy with hy
                      injection hz' with hz'
                      subst hy; subst hz'
                      exact HZZ.out
                    · exact hall.out i y z' (by omega) hy hz'
                  case measure => simp [intOf]; omega
                | false =>
                  have HZZ := Lib.hid hzz
                  rw [hzz] at hcall
                  clear hzz
                  go_wp2_with fail
                  go_still_tail 10, (by kernel_rfl)
                  change wpList _ _ _ _ _ wr.drew
                  go_wp2_with fail
                  refine hcall.out.mono ?_
                  rintro e w2 ⟨rfl, hb2⟩
                  have hb3 := ((Below.refl _ wr).drew).trans hb2
                  go_wp2_with fail
                  go_ret
                  refine ⟨?_, hb.trans (hb3.mono hb.size)⟩
                  rw [no.out (fun h => by
                    injection h with _ _ _ h
                    subst h
                    have e := HX.out.symm.trans HZ.out
                    injection e with e
                    subst e
                    have := (Tm.same_iff x x).2 rfl
                    rw [HZZ.out] at this
                    cases this)]
                  rfl
              · have hd3 : decide ((j : Int) < (l.length : Int)) = false := decide_eq_false (by omega)
                have HJ := Lib.hid (show j = l.length by omega)
                clear hB hB'
                go_wp2_with fail
                go_ret
                refine ⟨?_, hb⟩
                rw [yes.out (fun i y z hy hz => hall.out i y z (by have := (List.getElem?_eq_some_iff.1 hy).1; have := HJ.out; omega) hy hz)]
                rfl
          · have hl1 : ((l.length : Int) == (l2.length : Int)) = false := beq_eq_false_iff_ne.2 (by omega)
            have hl2' : ((l.length : Int) != (l2.length : Int)) = true := by rw [bne, hl1]; rfl
            have hl3 : (l.length == l2.length) = false := beq_eq_false_iff_ne.2 hln
            have hl4 : (l.length != l2.length) = true := by rw [bne, hl3]; rfl
            have hn := Lib.hid (no.out (fun h => by injection h with _ _ _ h; exact hln (by rw [h])))
            clear hln
            go_enter Try.func15, Try.ntmps15
            go_wp2_with fail
            go_ret
            exact ⟨by rw [hn.out]; rfl, BW.out⟩
      · have hn := Lib.hid (no.out (fun h => by injection h with _ h; exact hs h))
        have hs1 : (s.data.toList == s2.data.toList) = false := by
          cases h : (s.data.toList == s2.data.toList) with
          | false => rfl
          | true => exact absurd (Tm.ba_ext (beq_iff_eq.1 h)) hs
        have hs2 : (s.data.toList != s2.data.toList) = true := by rw [bne, hs1]; rfl
        have hs6 : ¬ s.toList = s2.toList := fun h => hs (Tm.ba_ext (by rw [← ByteArray.toList_eq, ← ByteArray.toList_eq]; exact h))
        have hs7 : (s.toList == s2.toList) = false := beq_eq_false_iff_ne.2 hs6
        have hs8 : (s.toList != s2.toList) = true := by rw [bne, hs7]; rfl
        have hs3 : ¬ s.data = s2.data := fun h => hs (Tm.ba_ext (by rw [h]))
        have hs4 : (s.data == s2.data) = false := beq_eq_false_iff_ne.2 hs3
        have hs5 : (s.data != s2.data) = true := by rw [bne, hs4]; rfl
        go_enter Try.func15, Try.ntmps15
        go_wp2_with fail
        go_ret
        exact ⟨by rw [hn.out]; rfl, BW.out⟩
end Go.Proofs.Ytbdappbmlnpogaa
namespace Go.Proofs.Ytbdappbmlnpogaa
open Go Go.RowKit
set_option maxRecDepth 100000
def wz : Tm := .mk 3 ByteArray.empty 0 []
def wf : Tm := .mk 0 ⟨#[102]⟩ 0 []
def wo : Tm := .mk 3 ByteArray.empty 1 []
def WS : St := ⟨[⟨0, false, Tm.zero⟩], []⟩
theorem works_fresh : (St.fresh ⟨[], []⟩ 0) = WS := rfl
theorem works_1 : WS.invert 0 [wz] (Tm.apply wf [wz]) 9 = ((Tm.lams 1 (Tm.apply wf [wz]), 7, 0), WS) := by kernel_rfl
theorem works_2 : WS.invert 0 [wz] wo 9 = ((Tm.zero, 0, 170), WS) := by kernel_rfl
theorem works_3 : WS.args 0 [Tm.lams 1 (Tm.apply wo [wz])] 9 = ([wz], 6, 0) := by kernel_rfl
theorem works_4 : WS.args 0 [wf] 9 = ([], 0, 171) := by kernel_rfl
theorem works_ok : WS.Ok 4097 DB := ⟨Nat.le_refl _, fun i hi hb => by simp [WS] at hi; subst hi; cases hb⟩
theorem works_ask (t : Tm) (hv : t.valid = true) (hb : t.bnd DB = true) (hs : t.size ≤ 4096) : Ask ⟨0, (WS.info 0).1.lv, [wz]⟩ 4097 ⟨WS, 9, 0⟩ t DB :=
  ⟨works_ok, by simp, by decide, hv, hb, Int.le_refl _, by have : SB = 1073741824 := rfl; simp; omega, by decide, by simp [WS], by simp [WS]⟩
end Go.Proofs.Ytbdappbmlnpogaa
namespace Go.Proofs.Ytbdappbmlnpogaa
open Go Go.RowKit
set_option maxRecDepth 100000
abbrev zb3 : Obj := .cells #[.int .i64 3, .string ⟨#[]⟩, .int .i64 0, .slice none 0 0] 30 (0, 0)
abbrev fb4 : Obj := .cells #[.int .i64 0, .string ⟨#[102]⟩, .int .i64 0, .slice none 0 0] 30 (0, 0)
theorem rep_wf (H : GH) : Rep H wf [.int .i64 0, .string ⟨#[102]⟩, .int .i64 0, .slice none 0 0] := Rep.shut (by unfold I64; omega) (by unfold I64; omega) (by decide) (Sl.nil _ _ _)
theorem rep_wz (H : GH) : Rep H wz [.int .i64 3, .string ⟨#[]⟩, .int .i64 0, .slice none 0 0] := rep_leafT H 3 0 (by unfold I64; omega) (by unfold I64; omega)
theorem rep_wo (H : GH) : Rep H wo [.int .i64 3, .string ⟨#[]⟩, .int .i64 1, .slice none 0 0] := rep_leafT H 3 1 (by unfold I64; omega) (by unfold I64; omega)
/-- A box with a term is a slice of one term. -/
theorem box_tms {H : GH} {W : World} {g : Nat} {t : Tm} {a : Option Addr} {c : Nat} (hA : Agree H W) (hR : Rep H t (tcells t a c).toList) (hb : W.heap[g]? = some (tbox t a c)) (hn : H g = none) :
    Sub H (H.put g (tbox t a c)) ∧ Agree (H.put g (tbox t a c)) W ∧ Tms (H.put g (tbox t a c)) (.slice (some ⟨g, 0, none⟩) 1 1) [t] := by
  obtain ⟨s1, a1, t1⟩ := sl_box (e := 30) (sz := 4) (P := Rep H) hA rfl hR g (tcells t a c) hb rfl hn 1 (Nat.le_refl _) (by simp [maxLen])
  exact ⟨s1, a1, Sl.mono (Sub.refl _) (fun _ _ _ h => Rep.mono s1 h) t1⟩
theorem StAt.put {H : GH} {W : World} {F : Nat → Prop} {s : Nat} {S : St} (h : StAt H W F s S) {g : Nat} {o : Obj} (hn : H g = none) (hF : ¬ F g) : StAt (H.put g o) W F s S :=
  h.sub (GH.sub_put hn o) (fun k hk => GH.put_other H o (fun e => hF (e ▸ hk)))
def ApplyPost (H : GH) (W : World) (t : Tm) (e : Ending) (w' : World) : Prop := ∃ H' cs', e = .returned (.agg cs'.toArray) ∧ Pure H W H' w' ∧ Rep H' t cs'
theorem works_apply {H : GH} {W : World} {g : Nat} {t : Tm} {tcs : List Value} (hR : Rep H t tcs) (hA : Agree H W) (hb : W.heap[g]? = some zb3) (hn : H g = none) (h6 : t.k = 6 → t.l ≠ []) (hl : (t.apply [wz]).l.length ≤ LB) :
    Calls Try.prog 14 #[.agg tcs.toArray, .slice (some ⟨g, 0, none⟩) 1 1] W (ApplyPost (H.put g zb3) W (t.apply [wz])) := by
  obtain ⟨s1, a1, t1⟩ := box_tms (t := wz) (a := none) (c := 0) hA (rep_wz H) hb hn
  exact term_Apply t tcs [wz] _ (H.put g zb3) W (hR.mono s1) t1 a1 h6 hl
theorem works_invert {H : GH} {W : World} {F : Nat → Prop} {s g : Nat} {t : Tm} {tcs : List Value} (hA : Agree H W) (hS : StAt H W F s WS) (hb : W.heap[g]? = some zb3) (hn : H g = none) (hF : ¬ F g) (hR : Rep H t tcs) (hv : t.valid = true) (hbd : t.bnd DB = true) (hs : t.size ≤ 4096) :
    Calls Try.prog 19 #[.pointer (some ⟨s, 0, none⟩), .int .i64 0, .slice (some ⟨g, 0, none⟩) 1 1, .agg tcs.toArray, .int .i64 9] W (InvertPost F (H.put g zb3) W s (WS.invert 0 [wz] t 9)) := by
  obtain ⟨s1, a1, t1⟩ := box_tms (t := wz) (a := none) (c := 0) hA (rep_wz H) hb hn
  exact invert_Invert (H.put g zb3) W s WS 4097 DB 0 [wz] _ t tcs 9 a1 (hS.put hn hF) (by unfold I64; omega) t1 (by simp) (hR.mono s1) (by unfold I64; omega) (fun _ => works_ask t hv hbd hs)
theorem works_args {H : GH} {W : World} {F : Nat → Prop} {s g : Nat} {t : Tm} {a : Option Addr} {c : Nat} (hA : Agree H W) (hS : StAt H W F s WS) (hb : W.heap[g]? = some (tbox t a c)) (hn : H g = none) (hF : ¬ F g) (hR : Rep H t (tcells t a c).toList) (hbd : t.valid = true → t.bnd DB = true) (hs : t.size ≤ 4096) :
    Calls Try.prog 20 #[.pointer (some ⟨s, 0, none⟩), .int .i64 0, .slice (some ⟨g, 0, none⟩) 1 1, .int .i64 9] W (ArgsPost (H.put g (tbox t a c)) W (WS.args 0 [t] 9)) := by
  obtain ⟨s1, a1, t1⟩ := box_tms hA hR hb hn
  have hss : SB = 1073741824 := rfl
  exact invert_Args (H.put g (tbox t a c)) W s WS 4097 DB 0 [t] _ 9 a1 (hS.put hn hF) t1 (by simp) (by simpa using hbd) works_ok (by simp; omega) (by decide) (by unfold I64; omega)
/-- What holds behind the first inversion. -/
def WorkMid (H : GH) (w : World) (s b3 b4 : Nat) (p n e : Value) (wx : World) : Prop :=
  ∃ (F : Nat → Prop) (H' : GH) (g : Nat) (ta : Option Addr) (tc : Nat), p = .pointer (some ⟨g, 0, none⟩) ∧ n = .int .i64 7 ∧ e = .int .i64 0 ∧ Pure H w H' wx ∧ StAt H' wx F s WS ∧ ¬ F g ∧ ¬ F b3 ∧ ¬ F b4 ∧ (∀ k, F k → w.heap.size ≤ k ∧ k < wx.heap.size) ∧ Rep H' (Tm.lams 1 (Tm.apply wf [wz])) (tcells (Tm.lams 1 (Tm.apply wf [wz])) ta tc).toList ∧ wx.heap[g]? = some (tbox (Tm.lams 1 (Tm.apply wf [wz])) ta tc) ∧ wx.heap[b3]? = some zb3 ∧ wx.heap[b4]? = some fb4
end Go.Proofs.Ytbdappbmlnpogaa
namespace Go.Proofs.Ytbdappbmlnpogaa
open Go Go.RowKit
set_option maxRecDepth 100000
theorem below_al {a W : World} {o : Obj} (h : Below a.heap.size a W) : Below a.heap.size a (W.alloc o) := h.trans ((below_alloc W o).mono h.size)
theorem at0d (X : World) (o : Obj) (n : Nat) (h : n = X.heap.size) : (X.alloc o).drew.heap[n]? = some o := heap_alloc_at X o n h
theorem up0 {X : World} {o o' : Obj} {n : Nat} (h : X.heap[n]? = some o') : (X.alloc o).heap[n]? = some o' := Below.blk (below_alloc X o) h
theorem up0d {X : World} {o o' : Obj} {n : Nat} (h : X.heap[n]? = some o') : (X.alloc o).drew.heap[n]? = some o' := Below.blk (below_alloc X o) h
/-- Cells of the two boxes. -/
def CJ (b3 b4 : Nat) (W : World) : Prop := W.heap[b3]? = some zb3 ∧ W.heap[b4]? = some fb4
theorem CJ.cells {b3 b4 : Nat} {W : World} (h : CJ b3 b4 W) : W.cell? ⟨b3, 0, none⟩ = some (.int .i64 3) ∧ W.cell? ⟨b3, 1, none⟩ = some (.string ⟨#[]⟩) ∧ W.cell? ⟨b3, 2, none⟩ = some (.int .i64 0) ∧ W.cell? ⟨b3, 3, none⟩ = some (.slice none 0 0) ∧ W.cell? ⟨b4, 0, none⟩ = some (.int .i64 0) ∧ W.cell? ⟨b4, 1, none⟩ = some (.string ⟨#[102]⟩) ∧ W.cell? ⟨b4, 2, none⟩ = some (.int .i64 0) ∧ W.cell? ⟨b4, 3, none⟩ = some (.slice none 0 0) :=
  ⟨(box4 h.1).2.1, (box4 h.1).2.2.1, (box4 h.1).2.2.2.1, (box4 h.1).2.2.2.2.1, (box4 h.2).2.1, (box4 h.2).2.2.1, (box4 h.2).2.2.2.1, (box4 h.2).2.2.2.2.1⟩
theorem CJ.below {b3 b4 : Nat} {W W' : World} (h : CJ b3 b4 W) (hb : Below W.heap.size W W') : CJ b3 b4 W' := ⟨Below.blk hb h.1, Below.blk hb h.2⟩
theorem CJ.far {b3 b4 g : Nat} {W : World} (h : CJ b3 b4 W) (h3 : b3 ≠ g) (h4 : b4 ≠ g) (u0 u1 u2 u3 : Value) : CJ b3 b4 ((((W.setCell ⟨g, 0, none⟩ u0).setCell ⟨g, 1, none⟩ u1).setCell ⟨g, 2, none⟩ u2).setCell ⟨g, 3, none⟩ u3) :=
  ⟨(blk_far4 _ _ _ _ h3).trans h.1, (blk_far4 _ _ _ _ h4).trans h.2⟩
def Apply7 (H : GH) (WX W : World) (F : Nat → Prop) (s g b3 b4 : Nat) (e : Ending) (w' : World) : Prop :=
  ∃ H7 cs', e = .returned (.agg cs'.toArray) ∧ Below W.heap.size W w' ∧ Ext (fun _ => False) H WX H7 w' ∧ Rep H7 (Tm.apply wf [wz]) cs' ∧ StAt H7 w' F s WS ∧ CJ b3 b4 w' ∧ ∀ k, WX.heap.size ≤ k → k < W.heap.size → k ≠ g → H7 k = none
theorem works_7a {H : GH} {WX : World} {F : Nat → Prop} {s b3 b4 : Nat} (hA : Agree H WX) (hS : StAt H WX F s WS) (hF : ∀ k, F k → k < WX.heap.size) (hc : CJ b3 b4 WX) (W : World) (g : Nat) (hW : Below WX.heap.size WX W) (hb : W.heap[g]? = some zb3) (hg : WX.heap.size ≤ g) :
    Calls Try.prog 14 #[.agg #[.int .i64 0, .string ⟨#[102]⟩, .int .i64 0, .slice none 0 0], .slice (some ⟨g, 0, none⟩) 1 1] W (Apply7 H WX W F s g b3 b4) := by
  have hn : H g = none := hA.free hg
  refine (works_apply (rep_wf H) (hA.below hW) hb hn (by intro h; cases h) (by decide)).mono ?_
  have hx : Ext (fun _ => False) H WX (H.put g zb3) W := ⟨GH.sub_put hn _, (hA.below hW).put hb, hW.os, hW.tape, hW.output, hW.size, fun k hk _ => hW.block k hk, fun k hk => GH.put_other _ _ (by omega)⟩
  rintro e w' ⟨H7, cs', rfl, X7, R7⟩
  exact ⟨H7, cs', rfl, X7.below, hx.then X7, R7, ((hS.below hA hW).put hn (fun h => by have := hF g h; omega)).pure X7, (hc.below hW).below X7.below, fun k h1 h2 h3 => (X7.old k h2).trans ((GH.put_other _ _ h3).trans (hA.free h1))⟩
def Inv7 (H H7 : GH) (WX W : World) (F : Nat → Prop) (s g b3 b4 : Nat) (e : Ending) (w' : World) : Prop :=
  ∃ H8 cs', e = .returned (.tuple #[.agg cs'.toArray, .int .i64 7, .int .i64 0]) ∧ Ext F H WX H8 w' ∧ Rep H8 (Tm.lams 1 (Tm.apply wf [wz])) cs' ∧ StAt H8 w' (fun k => (F k ∨ W.heap.size ≤ k) ∧ k < w'.heap.size) s WS ∧ CJ b3 b4 w' ∧ (∀ k o, WX.heap.size ≤ k → W.heap[k]? = some o → w'.heap[k]? = some o ∧ k < W.heap.size ∧ (H7 k = none → k ≠ g → H8 k = none)) ∧ WX.heap.size ≤ W.heap.size
theorem works_7b {H H7 : GH} {WX w7 : World} {F : Nat → Prop} {s b3 b4 : Nat} (hX : Ext (fun _ => False) H WX H7 w7) (hS : StAt H7 w7 F s WS) (hF : ∀ k, F k → k < WX.heap.size) (hc : CJ b3 b4 w7) (h3 : ¬ F b3) (h4 : ¬ F b4) (hb34 : b3 < WX.heap.size ∧ b4 < WX.heap.size) {cs : List Value} (hR : Rep H7 (Tm.apply wf [wz]) cs) (W : World) (g : Nat) (hW : Below w7.heap.size w7 W) (hb : W.heap[g]? = some zb3) (hg : WX.heap.size ≤ g) (hn : H7 g = none) :
    Calls Try.prog 19 #[.pointer (some ⟨s, 0, none⟩), .int .i64 0, .slice (some ⟨g, 0, none⟩) 1 1, .agg cs.toArray, .int .i64 9] W (Inv7 H H7 WX W F s g b3 b4) := by
  have hA := hX.agree.below hW
  refine (works_invert hA (hS.below hX.agree hW) hb hn (fun h => by have := hF g h; omega) hR (by decide) (by decide) (by decide)).mono ?_
  have hx : Ext (fun _ => False) H WX (H7.put g zb3) W := ⟨hX.sub.trans (GH.sub_put hn _), hA.put hb, hW.os.trans hX.os, hW.tape.trans hX.tape, hW.output.trans hX.output, Nat.le_trans hX.size hW.size, fun k hk hn' => (hW.block k (Nat.lt_of_lt_of_le hk hX.size)).trans (hX.block k hk hn'), fun k hk => (GH.put_other _ _ (by omega)).trans (hX.old k hk)⟩
  have hs1 := hX.size
  have hs2 := hW.size
  rintro e w' ⟨H8, cs', rfl, X8, R8, S8⟩
  rw [works_1] at R8 S8
  have c8 := hc.below hW
  refine ⟨H8, cs', rfl, (hx.mono (O' := F) (fun _ h => h.elim)).trans X8 (fun k hk _ => hk), R8, S8.tight, ⟨(X8.block b3 (by omega) h3).trans c8.1, (X8.block b4 (by omega) h4).trans c8.2⟩, fun k o h1 h2 => ⟨(X8.block k (cell_lt h2) (fun h => by have := hF k h; omega)).trans h2, cell_lt h2, fun h3 h4 => (X8.old k (cell_lt h2)).trans ((GH.put_other _ _ h4).trans h3)⟩, hx.size⟩
abbrev TT : Tm := Tm.lams 1 (Tm.apply wf [wz])
theorem mid_before {H H8 : GH} {w WX w8 : World} {F : Nat → Prop} {s b3 b4 g Wn : Nat} {ya : Option Addr} {yc : Nat} (EX : Pure H w H WX) (hFs : ∀ k, F k → w.heap.size ≤ k ∧ k < WX.heap.size) (X8 : Ext F H WX H8 w8) (R8 : Rep H8 TT (tcells TT ya yc).toList) (ST8 : StAt H8 w8 (fun k => (F k ∨ Wn ≤ k) ∧ k < w8.heap.size) s WS) (CC8 : CJ b3 b4 w8) (h3 : ¬ F b3) (h4 : ¬ F b4) (hb : b3 < WX.heap.size ∧ b4 < WX.heap.size) (hWn : WX.heap.size ≤ Wn)
    (M5 : w8.heap[g]? = some zbox) (hgW : g < Wn) (K5 : H8 g = none) (hg : WX.heap.size ≤ g) :
    WorkMid H w s b3 b4 (.pointer (some ⟨g, 0, none⟩)) (.int .i64 7) (.int .i64 0) ((((w8.setCell ⟨g, 0, none⟩ (.int .i64 TT.k)).setCell ⟨g, 1, none⟩ (.string TT.s)).setCell ⟨g, 2, none⟩ (.int .i64 TT.n)).setCell ⟨g, 3, none⟩ (.slice ya TT.l.length yc)) := by
  have hwX := EX.size
  have P8 : Pure H w H8 w8 := EX.trans X8 (fun k hk hlt => absurd hlt (by have := (hFs k hk).1; omega))
  have T : Ext (fun k => k = g) H8 w8 H8 ((((w8.setCell ⟨g, 0, none⟩ (.int .i64 TT.k)).setCell ⟨g, 1, none⟩ (.string TT.s)).setCell ⟨g, 2, none⟩ (.int .i64 TT.n)).setCell ⟨g, 3, none⟩ (.slice ya TT.l.length yc)) :=
    ((((Ext.refl (O := fun k => k = g) X8.agree).setCell (p := ⟨g, 0, none⟩) K5 (fun _ => rfl) _).setCell (p := ⟨g, 1, none⟩) K5 (fun _ => rfl) _).setCell (p := ⟨g, 2, none⟩) K5 (fun _ => rfl) _).setCell (p := ⟨g, 3, none⟩) K5 (fun _ => rfl) _
  have nG : ¬ ((F g ∨ Wn ≤ g) ∧ g < w8.heap.size) := fun h => h.1.elim (fun h => by have := (hFs g h).2; omega) (fun h => by omega)
  have c := CC8.far (g := g) (by omega) (by omega) (.int .i64 TT.k) (.string TT.s) (.int .i64 TT.n) (.slice ya TT.l.length yc)
  refine ⟨_, H8, g, ya, yc, rfl, rfl, rfl, P8.store4 K5 (by omega) _ _ _ _, ST8.ext T (fun k hk hF => by subst hk; exact nG hF), nG, fun h => h.1.elim h3 (fun h => by omega), fun h => h.1.elim h4 (fun h => by omega), fun k hk => ⟨?_, by rw [size_set4]; exact hk.2⟩, R8, blk_set4 _ _ _ _ M5, c.1, c.2⟩
  exact hk.1.elim (fun h => (hFs k h).1) (fun h => by omega)
theorem mid_after {H H8 : GH} {w WX w8 : World} {F : Nat → Prop} {s b3 b4 Wn : Nat} {ya : Option Addr} {yc : Nat} (EX : Pure H w H WX) (hFs : ∀ k, F k → w.heap.size ≤ k ∧ k < WX.heap.size) (X8 : Ext F H WX H8 w8) (R8 : Rep H8 TT (tcells TT ya yc).toList) (ST8 : StAt H8 w8 (fun k => (F k ∨ Wn ≤ k) ∧ k < w8.heap.size) s WS) (CC8 : CJ b3 b4 w8) (h3 : ¬ F b3) (h4 : ¬ F b4) (hb : b3 < WX.heap.size ∧ b4 < WX.heap.size) (hWn : WX.heap.size ≤ Wn) :
    WorkMid H w s b3 b4 (.pointer (some ⟨w8.heap.size, 0, none⟩)) (.int .i64 7) (.int .i64 0) (w8.alloc (tbox TT ya yc)) := by
  have hwX := EX.size
  have P8 : Pure H w H8 w8 := EX.trans X8 (fun k hk hlt => absurd hlt (by have := (hFs k hk).1; omega))
  have c := CC8.below (below_alloc w8 (tbox TT ya yc))
  refine ⟨_, H8, w8.heap.size, ya, yc, rfl, rfl, rfl, P8.alloc _, ST8.below X8.agree (below_alloc _ _), fun h => Nat.lt_irrefl _ h.2, fun h => h.1.elim h3 (fun h => by omega), fun h => h.1.elim h4 (fun h => by omega), fun k hk => ⟨?_, by have := hk.2; simp; omega⟩, R8, heap_alloc_new _ _, c.1, c.2⟩
  exact hk.1.elim (fun h => (hFs k h).1) (fun h => by omega)
/-- What is carried from call to call. -/
structure WST (H : GH) (w : World) (s b3 b4 g : Nat) (ta : Option Addr) (tc : Nat) (F : Nat → Prop) (H' : GH) (wx : World) : Prop where
  P : Pure H w H' wx
  ST : StAt H' wx F s WS
  hF : ∀ k, F k → w.heap.size ≤ k ∧ k < wx.heap.size
  R : Rep H' TT (tcells TT ta tc).toList
  B : wx.heap[g]? = some (tbox TT ta tc)
  C : CJ b3 b4 wx
  nG : ¬ F g
  n3 : ¬ F b3
  n4 : ¬ F b4
section
variable {H H' H'' : GH} {w wx wx' : World} {s b3 b4 g : Nat} {ta : Option Addr} {tc : Nat} {F : Nat → Prop}
theorem WST.pure (h : WST H w s b3 b4 g ta tc F H' wx) (X : Pure H' wx H'' wx') : WST H w s b3 b4 g ta tc F H'' wx' :=
  ⟨h.P.then X, h.ST.pure X, fun k hk => ⟨(h.hF k hk).1, Nat.lt_of_lt_of_le (h.hF k hk).2 X.size⟩, h.R.mono X.sub, Below.blk X.below h.B, h.C.below X.below, h.nG, h.n3, h.n4⟩
theorem WST.alloc (h : WST H w s b3 b4 g ta tc F H' wx) (o : Obj) : WST H w s b3 b4 g ta tc F H' (wx.alloc o) := h.pure ((Ext.refl h.P.agree).alloc o)
theorem WST.drew (h : WST H w s b3 b4 g ta tc F H' wx) : WST H w s b3 b4 g ta tc F H' wx.drew := h.pure (Ext.refl h.P.agree).drew
theorem WST.put (h : WST H w s b3 b4 g ta tc F H' wx) {g' : Nat} {o : Obj} (hg : wx.heap[g']? = some o) (hn : H' g' = none) (hs : w.heap.size ≤ g') (hF : ¬ F g') : WST H w s b3 b4 g ta tc F (H'.put g' o) wx :=
  ⟨h.P.put hg hn hs, h.ST.put hn hF, h.hF, h.R.mono (GH.sub_put hn o), h.B, h.C, h.nG, h.n3, h.n4⟩
theorem WST.free (h : WST H w s b3 b4 g ta tc F H' wx) : H' wx.heap.size = none ∧ w.heap.size ≤ wx.heap.size ∧ ¬ F wx.heap.size :=
  ⟨h.P.agree.free (Nat.le_refl _), h.P.size, fun hk => Nat.lt_irrefl _ (h.hF _ hk).2⟩
theorem WST.slice (h : WST H w s b3 b4 g ta tc F H' wx) (o : Obj) : WST H w s b3 b4 g ta tc F (H'.put wx.heap.size o) (wx.alloc o) :=
  (h.alloc o).put (heap_alloc_new _ _) h.free.1 h.free.2.1 h.free.2.2
theorem WST.cells (h : WST H w s b3 b4 g ta tc F H' wx) : wx.cell? ⟨b3, 0, none⟩ = some (.int .i64 3) ∧ wx.cell? ⟨b3, 1, none⟩ = some (.string ⟨#[]⟩) ∧ wx.cell? ⟨b3, 2, none⟩ = some (.int .i64 0) ∧ wx.cell? ⟨b3, 3, none⟩ = some (.slice none 0 0) ∧ wx.cell? ⟨b4, 0, none⟩ = some (.int .i64 0) ∧ wx.cell? ⟨b4, 1, none⟩ = some (.string ⟨#[102]⟩) ∧ wx.cell? ⟨b4, 2, none⟩ = some (.int .i64 0) ∧ wx.cell? ⟨b4, 3, none⟩ = some (.slice none 0 0) ∧ wx.cell? ⟨g, 0, none⟩ = some (.int .i64 TT.k) ∧ wx.cell? ⟨g, 1, none⟩ = some (.string TT.s) ∧ wx.cell? ⟨g, 2, none⟩ = some (.int .i64 TT.n) ∧ wx.cell? ⟨g, 3, none⟩ = some (.slice ta TT.l.length tc) := by
  obtain ⟨a1, a2, a3, a4, a5, a6, a7, a8⟩ := h.C.cells
  exact ⟨a1, a2, a3, a4, a5, a6, a7, a8, (box4 h.B).2.1, (box4 h.B).2.2.1, (box4 h.B).2.2.2.1, (box4 h.B).2.2.2.2.1⟩
end
set_option maxHeartbeats 16000000 in
theorem law_works (H : GH) (w : World) (hA : Agree H w) : Calls Try.prog 5 #[] w fun e w' => e = .returned (.bool true) ∧ Below w.heap.size w w' := by
  have hnew := Lib.hid (store_New H w hA)
  go_enter Try.func5, Try.ntmps5
  go_wp2_with fail
  refine hnew.out.mono ?_
  rintro e w1 ⟨rfl, X1, S1⟩
  have hfr := Lib.hid (store_Fresh H w1 w.heap.size ⟨[], []⟩ 0 X1.agree S1.tight (by unfold I64; omega) (by simp))
  go_wp2_with fail
  refine hfr.out.mono ?_
  rintro e w2 ⟨rfl, X2, S2⟩
  rw [works_fresh] at S2
  have E2 := Lib.hid (X1.trans X2 (fun k hk hlt => by have := hk.1; omega))
  have hz2 := E2.out.size
  have hF2 : Hid (∀ k, ((k = w.heap.size ∧ k < w1.heap.size) ∨ w1.heap.size ≤ k) ∧ k < w2.heap.size → w.heap.size ≤ k ∧ k < w2.heap.size) := Lib.hid (fun k hk => ⟨by have := hk.1; have := X1.size; omega, hk.2⟩)
  have SX := Lib.hid ((S2.tight.below X2.agree (below_alloc w2 zb3)).below (X2.agree.alloc zb3) (below_alloc (w2.alloc zb3) fb4))
  have EX := Lib.hid ((E2.out.alloc zb3).alloc fb4)
  have CX : Hid (CJ w2.heap.size (w2.heap.size + 1) ((w2.alloc zb3).alloc fb4)) := Lib.hid ⟨Below.blk (below_alloc _ _) (heap_alloc_new _ _), heap_alloc_at _ _ _ (by simp)⟩
  have hsx : ((w2.alloc zb3).alloc fb4).heap.size = w2.heap.size + 2 := by simp
  clear hnew hfr X1 S1 X2 S2
  go_upto_region 7 with fail
  generalize hWX : (w2.alloc zb3).alloc fb4 = WX at *
  clear hWX
  generalize hFF : (fun k => ((k = w.heap.size ∧ k < w1.heap.size) ∨ w1.heap.size ≤ k) ∧ k < w2.heap.size) = F at *
  have hFs : Hid (∀ k, F k → w.heap.size ≤ k ∧ k < w2.heap.size) := Lib.hid (fun k hk => hF2.out k (by rw [← hFF] at hk; exact hk))
  have HSX := Lib.hid hsx
  have h3 : Hid (¬ F w2.heap.size) := Lib.hid (fun h => by have := (hFs.out _ h).2; omega)
  have h4 : Hid (¬ F (w2.heap.size + 1)) := Lib.hid (fun h => by have := (hFs.out _ h).2; omega)
  clear hFF hF2 hsx
  go_cut [5, 6, 7] from 25 (fun p n e wx => WorkMid H w w.heap.size w2.heap.size (w2.heap.size + 1) p n e wx)
  case first =>
    have hFW : ∀ k, F k → k < WX.heap.size := fun k hk => by have := (hFs.out k hk).2; have := HSX.out; omega
    have hb34 : w2.heap.size < WX.heap.size ∧ w2.heap.size + 1 < WX.heap.size := by have := HSX.out; omega
    have ARM1 := Lib.hid (fun W g hW hb hg => works_7a EX.out.agree SX.out hFW CX.out W g hW hb hg)
    have HB34 := Lib.hid hb34
    have HFW := Lib.hid hFW
    clear hb34 hFW
    have P0 := Lib.hid (ARM1.out (WX.alloc zb3).drew (WX.heap.size) (by (repeat (first | with_reducible exact Below.refl _ _ | with_reducible apply Below.drew | with_reducible apply below_al))) (show ((WX.alloc zb3)).heap[WX.heap.size]? = some zb3 from heap_alloc_at _ _ _ (by simp)) (by omega))
    have P1 := Lib.hid (ARM1.out ((WX.alloc zb3).alloc zb3).drew (WX.heap.size) (by (repeat (first | with_reducible exact Below.refl _ _ | with_reducible apply Below.drew | with_reducible apply below_al))) (show (((WX.alloc zb3).alloc zb3)).heap[WX.heap.size]? = some zb3 from up0 (heap_alloc_at _ _ _ (by simp))) (by omega))
    have A1 := Lib.hid (show (((WX.alloc zb3).alloc zb3)).heap[WX.heap.size + 1]? = some zb3 from heap_alloc_at _ _ _ (by simp))
    have L1 : Hid (WX.heap.size ≤ WX.heap.size + 1 ∧ WX.heap.size + 1 < ((WX.alloc zb3).alloc zb3).drew.heap.size ∧ WX.heap.size + 1 ≠ WX.heap.size) := Lib.hid (by refine ⟨?_, ?_, ?_⟩ <;> first | omega | (simp; done) | (simp; omega))
    have P2 := Lib.hid (ARM1.out ((WX.alloc zb3).alloc zb3).drew (WX.heap.size + 1) (by (repeat (first | with_reducible exact Below.refl _ _ | with_reducible apply Below.drew | with_reducible apply below_al))) (show (((WX.alloc zb3).alloc zb3)).heap[WX.heap.size + 1]? = some zb3 from heap_alloc_at _ _ _ (by simp)) (by omega))
    have A2 := Lib.hid (show (((WX.alloc zb3).alloc zb3)).heap[WX.heap.size]? = some zb3 from up0 (heap_alloc_at _ _ _ (by simp)))
    have L2 : Hid (WX.heap.size ≤ WX.heap.size ∧ WX.heap.size < ((WX.alloc zb3).alloc zb3).drew.heap.size ∧ WX.heap.size ≠ WX.heap.size + 1) := Lib.hid (by refine ⟨?_, ?_, ?_⟩ <;> first | omega | (simp; done) | (simp; omega))
    have P3 := Lib.hid (ARM1.out ((WX.alloc zb3).alloc zbox).drew (WX.heap.size) (by (repeat (first | with_reducible exact Below.refl _ _ | with_reducible apply Below.drew | with_reducible apply below_al))) (show (((WX.alloc zb3).alloc zbox)).heap[WX.heap.size]? = some zb3 from up0 (heap_alloc_at _ _ _ (by simp))) (by omega))
    have C3 := Lib.hid (show (((WX.alloc zb3).alloc zbox)).heap[WX.heap.size + 1]? = some zbox from heap_alloc_at _ _ _ (by simp))
    have D3 : Hid (WX.heap.size ≤ WX.heap.size + 1 ∧ WX.heap.size + 1 < ((WX.alloc zb3).alloc zbox).drew.heap.size ∧ WX.heap.size + 1 ≠ WX.heap.size) := Lib.hid (by refine ⟨?_, ?_, ?_⟩ <;> first | omega | (simp; done) | (simp; omega))
    have P4 := Lib.hid (ARM1.out ((WX.alloc zbox).alloc zb3).drew (WX.heap.size + 1) (by (repeat (first | with_reducible exact Below.refl _ _ | with_reducible apply Below.drew | with_reducible apply below_al))) (show (((WX.alloc zbox).alloc zb3)).heap[WX.heap.size + 1]? = some zb3 from heap_alloc_at _ _ _ (by simp)) (by omega))
    have C4 := Lib.hid (show (((WX.alloc zbox).alloc zb3)).heap[WX.heap.size]? = some zbox from up0 (heap_alloc_at _ _ _ (by simp)))
    have D4 : Hid (WX.heap.size ≤ WX.heap.size ∧ WX.heap.size < ((WX.alloc zbox).alloc zb3).drew.heap.size ∧ WX.heap.size ≠ WX.heap.size + 1) := Lib.hid (by refine ⟨?_, ?_, ?_⟩ <;> first | omega | (simp; done) | (simp; omega))
    have P5 := Lib.hid (ARM1.out (((WX.alloc zb3).alloc zb3).alloc zbox).drew (WX.heap.size) (by (repeat (first | with_reducible exact Below.refl _ _ | with_reducible apply Below.drew | with_reducible apply below_al))) (show ((((WX.alloc zb3).alloc zb3).alloc zbox)).heap[WX.heap.size]? = some zb3 from up0 (up0 (heap_alloc_at _ _ _ (by simp)))) (by omega))
    have A5 := Lib.hid (show ((((WX.alloc zb3).alloc zb3).alloc zbox)).heap[WX.heap.size + 1]? = some zb3 from up0 (heap_alloc_at _ _ _ (by simp)))
    have L5 : Hid (WX.heap.size ≤ WX.heap.size + 1 ∧ WX.heap.size + 1 < (((WX.alloc zb3).alloc zb3).alloc zbox).drew.heap.size ∧ WX.heap.size + 1 ≠ WX.heap.size) := Lib.hid (by refine ⟨?_, ?_, ?_⟩ <;> first | omega | (simp; done) | (simp; omega))
    have C5 := Lib.hid (show ((((WX.alloc zb3).alloc zb3).alloc zbox)).heap[WX.heap.size + 1 + 1]? = some zbox from heap_alloc_at _ _ _ (by simp))
    have D5 : Hid (WX.heap.size ≤ WX.heap.size + 1 + 1 ∧ WX.heap.size + 1 + 1 < (((WX.alloc zb3).alloc zb3).alloc zbox).drew.heap.size ∧ WX.heap.size + 1 + 1 ≠ WX.heap.size) := Lib.hid (by refine ⟨?_, ?_, ?_⟩ <;> first | omega | (simp; done) | (simp; omega))
    have P6 := Lib.hid (ARM1.out (((WX.alloc zb3).alloc zbox).alloc zb3).drew (WX.heap.size) (by (repeat (first | with_reducible exact Below.refl _ _ | with_reducible apply Below.drew | with_reducible apply below_al))) (show ((((WX.alloc zb3).alloc zbox).alloc zb3)).heap[WX.heap.size]? = some zb3 from up0 (up0 (heap_alloc_at _ _ _ (by simp)))) (by omega))
    have A6 := Lib.hid (show ((((WX.alloc zb3).alloc zbox).alloc zb3)).heap[WX.heap.size + 1 + 1]? = some zb3 from heap_alloc_at _ _ _ (by simp))
    have L6 : Hid (WX.heap.size ≤ WX.heap.size + 1 + 1 ∧ WX.heap.size + 1 + 1 < (((WX.alloc zb3).alloc zbox).alloc zb3).drew.heap.size ∧ WX.heap.size + 1 + 1 ≠ WX.heap.size) := Lib.hid (by refine ⟨?_, ?_, ?_⟩ <;> first | omega | (simp; done) | (simp; omega))
    have C6 := Lib.hid (show ((((WX.alloc zb3).alloc zbox).alloc zb3)).heap[WX.heap.size + 1]? = some zbox from up0 (heap_alloc_at _ _ _ (by simp)))
    have D6 : Hid (WX.heap.size ≤ WX.heap.size + 1 ∧ WX.heap.size + 1 < (((WX.alloc zb3).alloc zbox).alloc zb3).drew.heap.size ∧ WX.heap.size + 1 ≠ WX.heap.size) := Lib.hid (by refine ⟨?_, ?_, ?_⟩ <;> first | omega | (simp; done) | (simp; omega))
    have P7 := Lib.hid (ARM1.out (((WX.alloc zb3).alloc zb3).alloc zbox).drew (WX.heap.size + 1) (by (repeat (first | with_reducible exact Below.refl _ _ | with_reducible apply Below.drew | with_reducible apply below_al))) (show ((((WX.alloc zb3).alloc zb3).alloc zbox)).heap[WX.heap.size + 1]? = some zb3 from up0 (heap_alloc_at _ _ _ (by simp))) (by omega))
    have A7 := Lib.hid (show ((((WX.alloc zb3).alloc zb3).alloc zbox)).heap[WX.heap.size]? = some zb3 from up0 (up0 (heap_alloc_at _ _ _ (by simp))))
    have L7 : Hid (WX.heap.size ≤ WX.heap.size ∧ WX.heap.size < (((WX.alloc zb3).alloc zb3).alloc zbox).drew.heap.size ∧ WX.heap.size ≠ WX.heap.size + 1) := Lib.hid (by refine ⟨?_, ?_, ?_⟩ <;> first | omega | (simp; done) | (simp; omega))
    have C7 := Lib.hid (show ((((WX.alloc zb3).alloc zb3).alloc zbox)).heap[WX.heap.size + 1 + 1]? = some zbox from heap_alloc_at _ _ _ (by simp))
    have D7 : Hid (WX.heap.size ≤ WX.heap.size + 1 + 1 ∧ WX.heap.size + 1 + 1 < (((WX.alloc zb3).alloc zb3).alloc zbox).drew.heap.size ∧ WX.heap.size + 1 + 1 ≠ WX.heap.size + 1) := Lib.hid (by refine ⟨?_, ?_, ?_⟩ <;> first | omega | (simp; done) | (simp; omega))
    have P8 := Lib.hid (ARM1.out (((WX.alloc zb3).alloc zbox).alloc zb3).drew (WX.heap.size + 1 + 1) (by (repeat (first | with_reducible exact Below.refl _ _ | with_reducible apply Below.drew | with_reducible apply below_al))) (show ((((WX.alloc zb3).alloc zbox).alloc zb3)).heap[WX.heap.size + 1 + 1]? = some zb3 from heap_alloc_at _ _ _ (by simp)) (by omega))
    have A8 := Lib.hid (show ((((WX.alloc zb3).alloc zbox).alloc zb3)).heap[WX.heap.size]? = some zb3 from up0 (up0 (heap_alloc_at _ _ _ (by simp))))
    have L8 : Hid (WX.heap.size ≤ WX.heap.size ∧ WX.heap.size < (((WX.alloc zb3).alloc zbox).alloc zb3).drew.heap.size ∧ WX.heap.size ≠ WX.heap.size + 1 + 1) := Lib.hid (by refine ⟨?_, ?_, ?_⟩ <;> first | omega | (simp; done) | (simp; omega))
    have C8 := Lib.hid (show ((((WX.alloc zb3).alloc zbox).alloc zb3)).heap[WX.heap.size + 1]? = some zbox from up0 (heap_alloc_at _ _ _ (by simp)))
    have D8 : Hid (WX.heap.size ≤ WX.heap.size + 1 ∧ WX.heap.size + 1 < (((WX.alloc zb3).alloc zbox).alloc zb3).drew.heap.size ∧ WX.heap.size + 1 ≠ WX.heap.size + 1 + 1) := Lib.hid (by refine ⟨?_, ?_, ?_⟩ <;> first | omega | (simp; done) | (simp; omega))
    have P9 := Lib.hid (ARM1.out (((WX.alloc zbox).alloc zb3).alloc zb3).drew (WX.heap.size + 1) (by (repeat (first | with_reducible exact Below.refl _ _ | with_reducible apply Below.drew | with_reducible apply below_al))) (show ((((WX.alloc zbox).alloc zb3).alloc zb3)).heap[WX.heap.size + 1]? = some zb3 from up0 (heap_alloc_at _ _ _ (by simp))) (by omega))
    have A9 := Lib.hid (show ((((WX.alloc zbox).alloc zb3).alloc zb3)).heap[WX.heap.size + 1 + 1]? = some zb3 from heap_alloc_at _ _ _ (by simp))
    have L9 : Hid (WX.heap.size ≤ WX.heap.size + 1 + 1 ∧ WX.heap.size + 1 + 1 < (((WX.alloc zbox).alloc zb3).alloc zb3).drew.heap.size ∧ WX.heap.size + 1 + 1 ≠ WX.heap.size + 1) := Lib.hid (by refine ⟨?_, ?_, ?_⟩ <;> first | omega | (simp; done) | (simp; omega))
    have C9 := Lib.hid (show ((((WX.alloc zbox).alloc zb3).alloc zb3)).heap[WX.heap.size]? = some zbox from up0 (up0 (heap_alloc_at _ _ _ (by simp))))
    have D9 : Hid (WX.heap.size ≤ WX.heap.size ∧ WX.heap.size < (((WX.alloc zbox).alloc zb3).alloc zb3).drew.heap.size ∧ WX.heap.size ≠ WX.heap.size + 1) := Lib.hid (by refine ⟨?_, ?_, ?_⟩ <;> first | omega | (simp; done) | (simp; omega))
    have P10 := Lib.hid (ARM1.out (((WX.alloc zbox).alloc zb3).alloc zb3).drew (WX.heap.size + 1 + 1) (by (repeat (first | with_reducible exact Below.refl _ _ | with_reducible apply Below.drew | with_reducible apply below_al))) (show ((((WX.alloc zbox).alloc zb3).alloc zb3)).heap[WX.heap.size + 1 + 1]? = some zb3 from heap_alloc_at _ _ _ (by simp)) (by omega))
    have A10 := Lib.hid (show ((((WX.alloc zbox).alloc zb3).alloc zb3)).heap[WX.heap.size + 1]? = some zb3 from up0 (heap_alloc_at _ _ _ (by simp)))
    have L10 : Hid (WX.heap.size ≤ WX.heap.size + 1 ∧ WX.heap.size + 1 < (((WX.alloc zbox).alloc zb3).alloc zb3).drew.heap.size ∧ WX.heap.size + 1 ≠ WX.heap.size + 1 + 1) := Lib.hid (by refine ⟨?_, ?_, ?_⟩ <;> first | omega | (simp; done) | (simp; omega))
    have C10 := Lib.hid (show ((((WX.alloc zbox).alloc zb3).alloc zb3)).heap[WX.heap.size]? = some zbox from up0 (up0 (heap_alloc_at _ _ _ (by simp))))
    have D10 : Hid (WX.heap.size ≤ WX.heap.size ∧ WX.heap.size < (((WX.alloc zbox).alloc zb3).alloc zb3).drew.heap.size ∧ WX.heap.size ≠ WX.heap.size + 1 + 1) := Lib.hid (by refine ⟨?_, ?_, ?_⟩ <;> first | omega | (simp; done) | (simp; omega))
    go_region_held3 (fun W => W.cell? ⟨w2.heap.size, 0, none⟩ = some (.int .i64 3) ∧ W.cell? ⟨w2.heap.size, 1, none⟩ = some (.string ⟨#[]⟩) ∧ W.cell? ⟨w2.heap.size, 2, none⟩ = some (.int .i64 0) ∧ W.cell? ⟨w2.heap.size, 3, none⟩ = some (.slice none 0 0) ∧ W.cell? ⟨w2.heap.size + 1, 0, none⟩ = some (.int .i64 0) ∧ W.cell? ⟨w2.heap.size + 1, 1, none⟩ = some (.string ⟨#[102]⟩) ∧ W.cell? ⟨w2.heap.size + 1, 2, none⟩ = some (.int .i64 0) ∧ W.cell? ⟨w2.heap.size + 1, 3, none⟩ = some (.slice none 0 0)) (first
        | (with_reducible refine (CX.out.below ?_).cells; (repeat (first | with_reducible exact Below.refl _ _ | with_reducible apply Below.drew | with_reducible apply below_al)); done)
        | (with_reducible refine (CC7.below ?_).cells; (repeat (first | with_reducible exact Below.refl _ _ | with_reducible apply Below.drew | with_reducible apply below_al)); done)
        | (with_reducible refine (CC8.below ?_).cells; (repeat (first | with_reducible exact Below.refl _ _ | with_reducible apply Below.drew | with_reducible apply below_al)); done)
        | (with_reducible refine (CC8.far ?_ ?_ _ _ _ _).cells <;> (have := HSX.out; have := X7.size; omega))) (first
      | (go_at_call 14; (first
          | ((with_reducible refine P0.out.mono ?_); rintro e w7 ⟨H7, cs7, rfl, BB7, X7, R7, ST7, CC7, HN7⟩; have FB7 := fun n o => Below.blk (b := n) (o := o) BB7; have ARM2 := Lib.hid (fun W g hW hb hg hn => works_7b X7 ST7 HFW.out CC7 h3.out h4.out HB34.out R7 W g hW hb hg hn); obtain ⟨xa, xc, rfl, -, -, -, -⟩ := R7.open_)
          | ((with_reducible refine P1.out.mono ?_); rintro e w7 ⟨H7, cs7, rfl, BB7, X7, R7, ST7, CC7, HN7⟩; have FB7 := fun n o => Below.blk (b := n) (o := o) BB7; have ARM2 := Lib.hid (fun W g hW hb hg hn => works_7b X7 ST7 HFW.out CC7 h3.out h4.out HB34.out R7 W g hW hb hg hn); have B29 := FB7 _ _ A1.out; have G29 := L1.out.1; have N29 := HN7 _ L1.out.1 L1.out.2.1 L1.out.2.2; obtain ⟨xa, xc, rfl, -, -, -, -⟩ := R7.open_)
          | ((with_reducible refine P2.out.mono ?_); rintro e w7 ⟨H7, cs7, rfl, BB7, X7, R7, ST7, CC7, HN7⟩; have FB7 := fun n o => Below.blk (b := n) (o := o) BB7; have ARM2 := Lib.hid (fun W g hW hb hg hn => works_7b X7 ST7 HFW.out CC7 h3.out h4.out HB34.out R7 W g hW hb hg hn); have B29 := FB7 _ _ A2.out; have G29 := L2.out.1; have N29 := HN7 _ L2.out.1 L2.out.2.1 L2.out.2.2; obtain ⟨xa, xc, rfl, -, -, -, -⟩ := R7.open_)
          | ((with_reducible refine P3.out.mono ?_); rintro e w7 ⟨H7, cs7, rfl, BB7, X7, R7, ST7, CC7, HN7⟩; have FB7 := fun n o => Below.blk (b := n) (o := o) BB7; have ARM2 := Lib.hid (fun W g hW hb hg hn => works_7b X7 ST7 HFW.out CC7 h3.out h4.out HB34.out R7 W g hW hb hg hn); have B5 := FB7 _ _ C3.out; have G5 := D3.out.1; have N5 := HN7 _ D3.out.1 D3.out.2.1 D3.out.2.2; obtain ⟨xa, xc, rfl, -, -, -, -⟩ := R7.open_)
          | ((with_reducible refine P4.out.mono ?_); rintro e w7 ⟨H7, cs7, rfl, BB7, X7, R7, ST7, CC7, HN7⟩; have FB7 := fun n o => Below.blk (b := n) (o := o) BB7; have ARM2 := Lib.hid (fun W g hW hb hg hn => works_7b X7 ST7 HFW.out CC7 h3.out h4.out HB34.out R7 W g hW hb hg hn); have B5 := FB7 _ _ C4.out; have G5 := D4.out.1; have N5 := HN7 _ D4.out.1 D4.out.2.1 D4.out.2.2; obtain ⟨xa, xc, rfl, -, -, -, -⟩ := R7.open_)
          | ((with_reducible refine P5.out.mono ?_); rintro e w7 ⟨H7, cs7, rfl, BB7, X7, R7, ST7, CC7, HN7⟩; have FB7 := fun n o => Below.blk (b := n) (o := o) BB7; have ARM2 := Lib.hid (fun W g hW hb hg hn => works_7b X7 ST7 HFW.out CC7 h3.out h4.out HB34.out R7 W g hW hb hg hn); have B29 := FB7 _ _ A5.out; have G29 := L5.out.1; have N29 := HN7 _ L5.out.1 L5.out.2.1 L5.out.2.2; have B5 := FB7 _ _ C5.out; have G5 := D5.out.1; have N5 := HN7 _ D5.out.1 D5.out.2.1 D5.out.2.2; obtain ⟨xa, xc, rfl, -, -, -, -⟩ := R7.open_)
          | ((with_reducible refine P6.out.mono ?_); rintro e w7 ⟨H7, cs7, rfl, BB7, X7, R7, ST7, CC7, HN7⟩; have FB7 := fun n o => Below.blk (b := n) (o := o) BB7; have ARM2 := Lib.hid (fun W g hW hb hg hn => works_7b X7 ST7 HFW.out CC7 h3.out h4.out HB34.out R7 W g hW hb hg hn); have B29 := FB7 _ _ A6.out; have G29 := L6.out.1; have N29 := HN7 _ L6.out.1 L6.out.2.1 L6.out.2.2; have B5 := FB7 _ _ C6.out; have G5 := D6.out.1; have N5 := HN7 _ D6.out.1 D6.out.2.1 D6.out.2.2; obtain ⟨xa, xc, rfl, -, -, -, -⟩ := R7.open_)
          | ((with_reducible refine P7.out.mono ?_); rintro e w7 ⟨H7, cs7, rfl, BB7, X7, R7, ST7, CC7, HN7⟩; have FB7 := fun n o => Below.blk (b := n) (o := o) BB7; have ARM2 := Lib.hid (fun W g hW hb hg hn => works_7b X7 ST7 HFW.out CC7 h3.out h4.out HB34.out R7 W g hW hb hg hn); have B29 := FB7 _ _ A7.out; have G29 := L7.out.1; have N29 := HN7 _ L7.out.1 L7.out.2.1 L7.out.2.2; have B5 := FB7 _ _ C7.out; have G5 := D7.out.1; have N5 := HN7 _ D7.out.1 D7.out.2.1 D7.out.2.2; obtain ⟨xa, xc, rfl, -, -, -, -⟩ := R7.open_)
          | ((with_reducible refine P8.out.mono ?_); rintro e w7 ⟨H7, cs7, rfl, BB7, X7, R7, ST7, CC7, HN7⟩; have FB7 := fun n o => Below.blk (b := n) (o := o) BB7; have ARM2 := Lib.hid (fun W g hW hb hg hn => works_7b X7 ST7 HFW.out CC7 h3.out h4.out HB34.out R7 W g hW hb hg hn); have B29 := FB7 _ _ A8.out; have G29 := L8.out.1; have N29 := HN7 _ L8.out.1 L8.out.2.1 L8.out.2.2; have B5 := FB7 _ _ C8.out; have G5 := D8.out.1; have N5 := HN7 _ D8.out.1 D8.out.2.1 D8.out.2.2; obtain ⟨xa, xc, rfl, -, -, -, -⟩ := R7.open_)
          | ((with_reducible refine P9.out.mono ?_); rintro e w7 ⟨H7, cs7, rfl, BB7, X7, R7, ST7, CC7, HN7⟩; have FB7 := fun n o => Below.blk (b := n) (o := o) BB7; have ARM2 := Lib.hid (fun W g hW hb hg hn => works_7b X7 ST7 HFW.out CC7 h3.out h4.out HB34.out R7 W g hW hb hg hn); have B29 := FB7 _ _ A9.out; have G29 := L9.out.1; have N29 := HN7 _ L9.out.1 L9.out.2.1 L9.out.2.2; have B5 := FB7 _ _ C9.out; have G5 := D9.out.1; have N5 := HN7 _ D9.out.1 D9.out.2.1 D9.out.2.2; obtain ⟨xa, xc, rfl, -, -, -, -⟩ := R7.open_)
          | ((with_reducible refine P10.out.mono ?_); rintro e w7 ⟨H7, cs7, rfl, BB7, X7, R7, ST7, CC7, HN7⟩; have FB7 := fun n o => Below.blk (b := n) (o := o) BB7; have ARM2 := Lib.hid (fun W g hW hb hg hn => works_7b X7 ST7 HFW.out CC7 h3.out h4.out HB34.out R7 W g hW hb hg hn); have B29 := FB7 _ _ A10.out; have G29 := L10.out.1; have N29 := HN7 _ L10.out.1 L10.out.2.1 L10.out.2.2; have B5 := FB7 _ _ C10.out; have G5 := D10.out.1; have N5 := HN7 _ D10.out.1 D10.out.2.1 D10.out.2.2; obtain ⟨xa, xc, rfl, -, -, -, -⟩ := R7.open_)))
      | (go_at_call 19; (first
          | ((with_reducible refine (ARM2.out w7 _ (Below.refl _ _) B29 G29 N29).mono ?_); rintro e w8 ⟨H8, cs8, rfl, X8, R8, ST8, CC8, FB8, HS8⟩; obtain ⟨ya, yc, rfl, -, -, -, -⟩ := R8.open_; (try (have M5 := FB8 _ _ G5 B5; have K5 := M5.2.2 N5 (by omega); have G55 := G5; obtain ⟨q0, q1, q2, q3, q4, q5, q6, q7, q8⟩ := box4 M5.1)))
          | ((with_reducible refine (ARM2.out (w7.alloc zbox) _ (below_alloc _ _) (up0 B29) G29 N29).mono ?_); rintro e w8 ⟨H8, cs8, rfl, X8, R8, ST8, CC8, FB8, HS8⟩; obtain ⟨ya, yc, rfl, -, -, -, -⟩ := R8.open_; have M5 := FB8 w7.heap.size zbox X7.size (heap_alloc_new _ _); have K5 := M5.2.2 (X7.agree.free (Nat.le_refl _)) (fun e => by have := cell_lt B29; omega); have G55 := X7.size; obtain ⟨q0, q1, q2, q3, q4, q5, q6, q7, q8⟩ := box4 M5.1)
          | ((with_reducible refine (ARM2.out (w7.alloc zb3) w7.heap.size (below_alloc _ _) (heap_alloc_new _ _) X7.size (X7.agree.free (Nat.le_refl _))).mono ?_); rintro e w8 ⟨H8, cs8, rfl, X8, R8, ST8, CC8, FB8, HS8⟩; obtain ⟨ya, yc, rfl, -, -, -, -⟩ := R8.open_; (try (have M5 := FB8 _ _ G5 (up0 B5); have K5 := M5.2.2 N5 (fun e => by have := cell_lt B5; omega); have G55 := G5; obtain ⟨q0, q1, q2, q3, q4, q5, q6, q7, q8⟩ := box4 M5.1)))
          | ((with_reducible refine (ARM2.out ((w7.alloc zb3).alloc zbox) w7.heap.size (below_al (below_alloc _ _)) (up0 (heap_alloc_new _ _)) X7.size (X7.agree.free (Nat.le_refl _))).mono ?_); rintro e w8 ⟨H8, cs8, rfl, X8, R8, ST8, CC8, FB8, HS8⟩; obtain ⟨ya, yc, rfl, -, -, -, -⟩ := R8.open_; have M5 := FB8 (w7.heap.size + 1) zbox (Nat.le_succ_of_le X7.size) (heap_alloc_at _ _ _ (by simp)); have K5 := M5.2.2 (X7.agree.free (Nat.le_succ _)) (by omega); have G55 := Nat.le_succ_of_le X7.size; obtain ⟨q0, q1, q2, q3, q4, q5, q6, q7, q8⟩ := box4 M5.1)
          | ((with_reducible refine (ARM2.out ((w7.alloc zbox).alloc zb3) (w7.heap.size + 1) (below_al (below_alloc _ _)) (heap_alloc_at _ _ _ (by simp)) (Nat.le_succ_of_le X7.size) (X7.agree.free (Nat.le_succ _))).mono ?_); rintro e w8 ⟨H8, cs8, rfl, X8, R8, ST8, CC8, FB8, HS8⟩; obtain ⟨ya, yc, rfl, -, -, -, -⟩ := R8.open_; have M5 := FB8 w7.heap.size zbox X7.size (up0 (heap_alloc_new _ _)); have K5 := M5.2.2 (X7.agree.free (Nat.le_refl _)) (by omega); have G55 := X7.size; obtain ⟨q0, q1, q2, q3, q4, q5, q6, q7, q8⟩ := box4 M5.1)))
      )
    all_goals
      go_wp2_with fail
      go_meet
      first
        | exact mid_before EX.out (fun k hk => ⟨(hFs.out k hk).1, HFW.out k hk⟩) X8 R8 ST8 CC8 h3.out h4.out HB34.out HS8 M5.1 M5.2.1 K5 G55
        | exact mid_after EX.out (fun k hk => ⟨(hFs.out k hk).1, HFW.out k hk⟩) X8 R8 ST8 CC8 h3.out h4.out HB34.out HS8
  case rest =>
    obtain ⟨G, H', g, ta, tc, rfl, rfl, rfl, P, ST, nG, n3, n4, hGF, RT, BT', C3, C4⟩ := hcut
    have K0 := Lib.hid (show WST H w w.heap.size w2.heap.size (w2.heap.size + 1) g ta tc G H' wc from ⟨P, ST, hGF, RT, BT', ⟨C3, C4⟩, nG, n3, n4⟩)
    clear P ST nG n3 n4 hGF RT BT' C3 C4 EX SX CX h3 h4 hFs HSX E2
    have hinv := Lib.hid (works_invert (K0.out.P.agree.alloc zb3) (K0.out.alloc zb3).ST (heap_alloc_new wc zb3) K0.out.free.1 K0.out.free.2.2 (rep_wo H') (by decide) (by decide) (by decide))
    obtain ⟨c0, c1, c2, c3, d0, d1, d2, d3, g0, g1, g2, g3⟩ := K0.out.cells
    have hb3 := cell_lt K0.out.C.1
    go_wp2_with fail
    refine hinv.out.mono ?_
    unfold InvertPost
    rw [works_2]
    rintro e w3 ⟨H3, cs3, rfl, X3, R3, S3⟩
    dsimp only at S3 R3
    have KS := K0.out.slice zb3
    have K3 : Hid (WST H w w.heap.size w2.heap.size (w2.heap.size + 1) g ta tc (fun k => (G k ∨ (wc.alloc zb3).heap.size ≤ k) ∧ k < w3.heap.size) H3 w3) := Lib.hid ⟨KS.P.trans X3 (fun k hk hlt => absurd hlt (by have := (KS.hF k hk).1; omega)), S3.tight, fun k hk => ⟨hk.1.elim (fun h => (KS.hF k h).1) (fun h => Nat.le_trans KS.P.size h), hk.2⟩, KS.R.mono X3.sub, (X3.block _ (cell_lt KS.B) KS.nG).trans KS.B, ⟨(X3.block _ (cell_lt KS.C.1) KS.n3).trans KS.C.1, (X3.block _ (cell_lt KS.C.2) KS.n4).trans KS.C.2⟩, fun h => h.1.elim KS.nG (fun h => by have := cell_lt KS.B; omega), fun h => h.1.elim KS.n3 (fun h => by have := cell_lt KS.C.1; omega), fun h => h.1.elim KS.n4 (fun h => by have := cell_lt KS.C.2; omega)⟩
    obtain ⟨ra, rc, rfl, -, -, -, -⟩ := R3.open_
    have K4 := Lib.hid (K3.out.alloc (tbox Tm.zero ra rc))
    clear hinv KS X3 S3 R3 K0 K3 c0 c1 c2 c3 d0 d1 d2 d3 g0 g1 g2 g3 hb3
    generalize (fun k => (G k ∨ (wc.alloc zb3).heap.size ≤ k) ∧ k < w3.heap.size) = F4 at K4
    go_upto_region 9 with fail
    generalize hW4 : w3.alloc (tbox Tm.zero ra rc) = w4 at *
    clear hW4
    obtain ⟨c0, c1, c2, c3, d0, d1, d2, d3, g0, g1, g2, g3⟩ := K4.out.cells
    have hb3 := cell_lt K4.out.C.1
    have K5 := Lib.hid (K4.out.slice zb3)
    have hap := Lib.hid (works_apply (rep_wo H3) (K4.out.alloc zb3).P.agree (heap_alloc_new w4 zb3) K4.out.free.1 (by intro h; cases h) (by decide))
    go_wp2_with fail
    refine hap.out.mono ?_
    rintro e w5 ⟨H5, cs5, rfl, X5, R5⟩
    have K6 := Lib.hid (K5.out.pure X5)
    have hlm := Lib.hid (term_Lams 1 (wo.apply [wz]) cs5 H5 w5 (by unfold LB; omega) X5.agree R5)
    obtain ⟨xa, xc, rfl, -, -, -, -⟩ := R5.open_
    clear hap X5 R5 c0 c1 c2 c3 d0 d1 d2 d3 g0 g1 g2 g3 hb3
    go_wp2_with fail
    refine hlm.out.mono ?_
    rintro e w6 ⟨H6, cs6, rfl, X6, R6⟩
    have K7 := Lib.hid (K6.out.pure X6)
    have HR6 := Lib.hid R6
    obtain ⟨ya, yc, rfl, -, -, -, -⟩ := R6.open_
    have har := Lib.hid (works_args (K7.out.alloc (tbox (Tm.lams 1 (wo.apply [wz])) ya yc)).P.agree (K7.out.alloc (tbox (Tm.lams 1 (wo.apply [wz])) ya yc)).ST (heap_alloc_new w6 (tbox (Tm.lams 1 (wo.apply [wz])) ya yc)) K7.out.free.1 K7.out.free.2.2 HR6.out (fun _ => by decide) (by decide))
    have K8 := Lib.hid (K7.out.slice (tbox (Tm.lams 1 (wo.apply [wz])) ya yc))
    clear hlm X6 R6
    go_wp2_with fail
    refine har.out.mono ?_
    unfold ArgsPost
    rw [works_3]
    rintro e w7 ⟨H7, v7, rfl, X7, T7⟩
    dsimp only at T7
    obtain ⟨va, vc, rfl, -, -⟩ := T7.form
    have K9 := Lib.hid (K8.out.pure X7)
    have har2 := Lib.hid (works_args (t := wf) (a := none) (c := 0) (K9.out.alloc fb4).P.agree (K9.out.alloc fb4).ST (heap_alloc_new w7 fb4) K9.out.free.1 K9.out.free.2.2 (rep_wf H7) (fun _ => by decide) (by decide))
    have K10 := Lib.hid (K9.out.slice fb4)
    obtain ⟨c0, c1, c2, c3, d0, d1, d2, d3, g0, g1, g2, g3⟩ := K9.out.cells
    have hb3 := cell_lt K9.out.C.1
    have hb4 := cell_lt K9.out.C.2
    clear har X7 T7
    go_wp2_with fail
    refine har2.out.mono ?_
    unfold ArgsPost
    rw [works_4]
    rintro e w8 ⟨H8, v8, rfl, X8, T8⟩
    dsimp only at T8
    obtain ⟨ua, uc, rfl, -, -⟩ := T8.form
    have K11 := Lib.hid (K10.out.pure X8)
    clear har2 X8 T8 c0 c1 c2 c3 d0 d1 d2 d3 g0 g1 g2 g3 hb3 hb4 K4 K5 K6 K7 K8 K9 K10
    go_upto_region 11 with fail
    have KA := K11.out.drew
    have KB := (K11.out.alloc zb3).drew
    have KP := Lib.hid ((K11.out.slice zb3).drew)
    have hap3 := Lib.hid (works_apply (rep_wf H8) KB.P.agree (show (w8.alloc zb3).drew.heap[w8.heap.size]? = some zb3 from heap_alloc_new w8 zb3) K11.out.free.1 (by intro h; cases h) (by decide))
    go_region_held3 (fun W => W.cell? ⟨w2.heap.size, 0, none⟩ = some (.int .i64 3) ∧ W.cell? ⟨w2.heap.size, 1, none⟩ = some (.string ⟨#[]⟩) ∧ W.cell? ⟨w2.heap.size, 2, none⟩ = some (.int .i64 0) ∧ W.cell? ⟨w2.heap.size, 3, none⟩ = some (.slice none 0 0) ∧ W.cell? ⟨w2.heap.size + 1, 0, none⟩ = some (.int .i64 0) ∧ W.cell? ⟨w2.heap.size + 1, 1, none⟩ = some (.string ⟨#[102]⟩) ∧ W.cell? ⟨w2.heap.size + 1, 2, none⟩ = some (.int .i64 0) ∧ W.cell? ⟨w2.heap.size + 1, 3, none⟩ = some (.slice none 0 0) ∧ W.cell? ⟨g, 0, none⟩ = some (.int .i64 TT.k) ∧ W.cell? ⟨g, 1, none⟩ = some (.string TT.s) ∧ W.cell? ⟨g, 2, none⟩ = some (.int .i64 TT.n) ∧ W.cell? ⟨g, 3, none⟩ = some (.slice ta TT.l.length tc)) (with_reducible (first | exact WST.cells KA | exact WST.cells KB | exact WST.cells KC | exact WST.cells KD | exact WST.cells KE)) (first
      | (go_at_call 14; ((with_reducible refine hap3.out.mono ?_); rintro e w9 ⟨H9, cs9, rfl, X9, R9⟩; have KC := KP.out.pure X9; have HLM := Lib.hid (term_Lams 1 (wf.apply [wz]) cs9 H9 w9 (by unfold LB; omega) X9.agree R9); obtain ⟨xa, xc, rfl, -, -, -, -⟩ := R9.open_))
      | (go_at_call 21; ((with_reducible refine HLM.out.mono ?_); rintro e w10 ⟨H10, cs10, rfl, X10, R10⟩; have KD := KC.pure X10; have HSM := Lib.hid (ref_Same TT TT _ cs10 H10 w10 KD.R R10 X10.agree); obtain ⟨ya, yc, rfl, -, -, -, -⟩ := R10.open_))
      | (go_at_call 15; ((with_reducible refine HSM.out.mono ?_); rintro e w11 ⟨rfl, hb11⟩; have KE := KD.pure (Ext.of_below KD.P.agree hb11))))
    have hss : TT.same TT = true := (Tm.same_iff _ _).2 rfl
    rw [hss]
    have KF := Lib.hid KE.P.below
    clear KA KB KC KD KE
    go_wp2_with fail
    go_ret
    exact ⟨rfl, KF.out⟩
end Go.Proofs.Ytbdappbmlnpogaa
namespace Go.Proofs.Ytbdappbmlnpogaa
open Go Go.RowKit
set_option maxRecDepth 100000
/-- What is small enough to be looked at. -/
def SmallT (t : Tm) : Prop := t.size ≤ 24 ∧ t.bnd 1000 = true
def RowPost (w : World) (l : List Tm) (e : Ending) (w' : World) : Prop := ∃ b, e = .returned (.bool b) ∧ Below w.heap.size w w' ∧ (b = false → l.length ≤ 6 ∧ ∀ t ∈ l, SmallT t)
set_option maxHeartbeats 8000000 in
theorem law_row (H : GH) (w : World) (v : Value) (l : List Tm) (hA : Agree H w) (hK : Tms H v l) :
    Calls Try.prog 7 #[v] w (RowPost w l) := by
  obtain ⟨a, cap, rfl, hll, hlm⟩ := hK.form
  unfold maxLen at hlm
  by_cases h6 : 6 < (l.length : Int)
  · go_enter Try.func7, Try.ntmps7
    go_wp2_with fail
    go_ret
    exact ⟨true, rfl, Below.refl _ _, fun h => by cases h⟩
  · have hd6 : decide (6 < (l.length : Int)) = false := decide_eq_false h6
    go_enter Try.func7, Try.ntmps7
    go_wp2_with fail
    go_loopw [3, 4, 5] (fun i _ _ wr => ∃ (j : Nat), j ≤ l.length ∧ i = .int .i64 j ∧ Below w.heap.size w wr ∧ Hid (∀ (i : Nat) (y : Tm), i < j → l[i]? = some y → SmallT y)) (fun i _ _ _ => l.length - (intOf i).toNat)
    case atStart => exact ⟨0, Nat.zero_le _, rfl, Below.refl _ _, fun i y hi => absurd hi (by omega)⟩
    case round =>
      obtain ⟨j, hj, rfl, hb, hall⟩ := hrel
      by_cases hlt : j < l.length
      · obtain ⟨x, hx⟩ : ∃ x, l[j]? = some x := ⟨_, List.getElem?_eq_getElem hlt⟩
        obtain ⟨b, o, cs, rfl, -, hRx, hcell⟩ := hK.get hx
        have hA' := hA.below hb
        have h1 := Lib.hid (ref_Large x 24 cs H wr hRx hA' (by omega) (by omega))
        have h2 := Lib.hid (fun W hW => ref_Near 1000 (by omega) (by omega) x cs H W hRx hW)
        obtain ⟨xa, xc, rfl, -, -, -, -⟩ := hRx.open_
        have c0 := hA'.cell (hcell 0 _ rfl)
        have c1 := hA'.cell (hcell 1 _ rfl)
        have c2 := hA'.cell (hcell 2 _ rfl)
        have c3 := hA'.cell (hcell 3 _ rfl)
        simp only [Nat.add_zero, ← Nat.add_assoc] at c0 c1 c2 c3
        have hbl := World.block_lt_of_cell? wr _ c0
        have HX := Lib.hid hx
        have HA := Lib.hid hA'
        have HC := Lib.hid (And.intro c0 (And.intro c1 (And.intro c2 c3)))
        clear hx hcell hRx hA'
        generalize hlg : decide (x.leftT 24 < 0) = lg at *
        go_wp2_with fail
        refine h1.out.mono ?_
        rintro e w2 ⟨rfl, hb2⟩
        have d0 := ((bcell hb2).1 _ _ hbl).trans HC.out.1
        have d1 := ((bcell hb2).1 _ _ hbl).trans HC.out.2.1
        have d2 := ((bcell hb2).1 _ _ hbl).trans HC.out.2.2.1
        have d3 := ((bcell hb2).1 _ _ hbl).trans HC.out.2.2.2
        have hbl2 : b < w2.heap.size := Nat.lt_of_lt_of_le hbl hb2.size
        clear c0 c1 c2 c3 hbl
        go_wp2_with fail
        refine (h2.out _ (HA.out.below hb2)).mono ?_
        generalize hnr : x.nearT 1000 = nr at *
        rintro e w3 ⟨rfl, hb3⟩
        have hb4 := hb.trans ((hb2.trans (hb3.mono hb2.size)).mono hb.size)
        clear h1 h2 d0 d1 d2 d3
        cases lg with
        | true =>
          go_wp2_with fail
          go_ret
          exact ⟨true, rfl, hb4, fun h => by cases h⟩
        | false =>
          cases nr with
          | false =>
            go_wp2_with fail
            go_ret
            exact ⟨true, rfl, hb4, fun h => by cases h⟩
          | true =>
            have HL := Lib.hid hlg
            have HN := Lib.hid hnr
            clear hlg hnr
            go_wp2_with fail
            go_roundw
            case rel =>
              refine ⟨j + 1, by omega, by go_num, hb4, fun i y hi hy => ?_⟩
              by_cases e : i = j
              · subst e
                rw [HX.out] at hy
                injection hy with hy
                subst hy
                have h0 : 0 ≤ x.leftT 24 := by have := of_decide_eq_false HL.out; omega
                have := Tm.left_size x 24 h0
                exact ⟨by omega, Tm.near_bnd 1000 x HN.out⟩
              · exact hall.out i y (by omega) hy
            case measure => simp [intOf]; omega
      · have hd3 : decide ((j : Int) < (l.length : Int)) = false := decide_eq_false (by omega)
        have HJ := Lib.hid (show j = l.length by omega)
        go_wp2_with fail
        go_ret
        refine ⟨false, rfl, hb, fun _ => ⟨by omega, fun t ht => ?_⟩⟩
        obtain ⟨i, hi⟩ := List.getElem?_of_mem ht
        exact hall.out i t (by have := (List.getElem?_eq_some_iff.1 hi).1; have := HJ.out; omega) hi
end Go.Proofs.Ytbdappbmlnpogaa
