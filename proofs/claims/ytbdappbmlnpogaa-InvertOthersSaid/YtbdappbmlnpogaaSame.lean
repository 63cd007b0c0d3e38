/- The document's small functions on terms: Large, Near. The document's small functions on terms: Near, Same. The document's Same. -/
import Derived.Test.YtbdappbmlnpogaaInvert
import Derived.Laws.Strings
namespace Go.Proofs.Ytbdappbmlnpogaa
open Go Go.RowKit
set_option maxRecDepth 100000
namespace Tm
mutual
/-- What is left of a number when a term's parts have been counted. -/
def leftT : Tm → Int → Int | .mk _ _ _ l, n => leftL l (n - 1)
def leftL : List Tm → Int → Int | [], n => n | t :: ts, n => if 0 ≤ n then leftL ts (t.leftT n) else n
end
theorem leftT_mk (k s n l m) : (mk k s n l).leftT m = leftL l (m - 1) := by rw [leftT]
theorem leftL_nil (n) : leftL [] n = n := by rw [leftL]
theorem leftL_cons (t ts n) : leftL (t :: ts) n = if 0 ≤ n then leftL ts (t.leftT n) else n := by rw [leftL]
theorem leftL_neg (l : List Tm) (n : Int) (h : n < 0) : leftL l n = n := by
  cases l with
  | nil => rw [leftL]
  | cons x xs => rw [leftL, if_neg (by omega)]
theorem left_bd (t : Tm) : ∀ n, 0 ≤ n → -1 ≤ t.leftT n ∧ t.leftT n ≤ n - 1 := by
  induction t using ind with
  | h k s m l ih =>
    have hl : ∀ n, -1 ≤ n → -1 ≤ leftL l n ∧ leftL l n ≤ n := by
      induction l with
      | nil => intro n hn; rw [leftL]; omega
      | cons x xs ihx =>
        intro n hn
        rw [leftL]
        split
        · have h1 := ih x (by simp) n (by omega)
          have h2 := ihx (fun t ht => ih t (by simp [ht])) (x.leftT n) (by omega)
          omega
        · omega
    intro n hn
    rw [leftT]
    exact hl (n - 1) (by omega)
theorem left_size (t : Tm) : ∀ n, 0 ≤ t.leftT n → (t.size : Int) = n - t.leftT n := by
  induction t using ind with
  | h k s m l ih =>
    have hl : ∀ n, 0 ≤ leftL l n → (sizeL l : Int) = n - leftL l n := by
      induction l with
      | nil => intro n _; rw [leftL]; simp
      | cons x xs ihx =>
        intro n hn
        rw [leftL] at hn ⊢
        split at hn
        · rename_i h0
          rw [if_pos h0]
          have h2 := ihx (fun t ht => ih t (by simp [ht])) (x.leftT n) hn
          have h3 : 0 ≤ x.leftT n := by
            by_cases h : x.leftT n < 0
            · rw [leftL_neg xs _ h] at hn; omega
            · omega
          have h1 := ih x (by simp) n h3
          rw [sizeL_cons]; push_cast; omega
        · omega
    intro n hn
    rw [leftT] at hn ⊢
    rw [size_mk]
    have := hl (n - 1) hn
    push_cast; omega
mutual
/-- Are all numbers but integers near zero? -/
def nearT (n : Int) : Tm → Bool | .mk k _ m l => ((k == 2) || (!decide (n < m) && !decide (m < -n))) && nearL n l
def nearL (n : Int) : List Tm → Bool | [] => true | t :: ts => t.nearT n && nearL n ts
end
theorem nearT_mk (n k s m l) : nearT n (mk k s m l) = (((k == 2) || (!decide (n < m) && !decide (m < -n))) && nearL n l) := by rw [nearT]
theorem nearL_iff (n : Int) (l : List Tm) : nearL n l = true ↔ ∀ t ∈ l, nearT n t = true := by
  induction l with
  | nil => rw [nearL]; simp
  | cons x xs ih => rw [nearL]; simp [ih]
theorem near_bnd (n : Int) (t : Tm) : nearT n t = true → t.bnd n = true := by
  induction t using ind with
  | h k s m l ih =>
    intro h
    rw [nearT_mk, Bool.and_eq_true, nearL_iff] at h
    rw [bnd_iff]
    refine ⟨fun hk => ?_, fun t ht => ih t ht (h.2 t ht)⟩
    have := h.1
    subst hk
    simp at this
    omega
end Tm
set_option maxHeartbeats 2000000 in
theorem ref_left (t : Tm) : ∀ (n : Int) (cs : List Value) (H : GH) (w : World), Rep H t cs → Agree H w → 0 ≤ n → n ≤ 1099511627776 →
    Calls Try.prog 47 #[.agg cs.toArray, .int .i64 n] w fun e w' => e = .returned (.int .i64 (t.leftT n)) ∧ Below w.heap.size w w' := by
  induction t using Tm.ind with
  | h k s m l ih =>
    intro n cs H w hR hA hn0 hn1
    have hg := Lib.hid (Tm.leftT_mk k s m l n)
    obtain ⟨a, cap, rfl, -, -, -, hl⟩ := hR.open_
    simp only [Tm.k_mk, Tm.s_mk, Tm.n_mk, Tm.l_mk] at *
    have hw1 := IntWalk.i64_in (n - 1) (by omega)
    have B0 := Lib.hid (show (w.alloc (.cells #[.int .i64 k, .string s, .int .i64 m, .slice a l.length cap] 30 (0, 0))).heap[w.heap.size]? = some (.cells #[.int .i64 k, .string s, .int .i64 m, .slice a l.length cap] 30 (0, 0)) from heap_alloc_new _ _)
    have hlen := hl.len
    have hlm := hlen.2.2
    have hll := hlen.2.1
    unfold maxLen at hlm
    clear hlen
    go_enter Try.func47, Try.ntmps47
    go_wp2_with fail
    go_loopw [5, 6] (fun q i wr => ∃ (j : Nat) (v : Int), j ≤ l.length ∧ i = .int .i64 j ∧ q = .int .i64 v ∧ -1 ≤ v ∧ v ≤ n ∧ Tm.leftL l (n - 1) = Tm.leftL (l.drop j) v ∧ Below w.heap.size w wr ∧ wr.heap[w.heap.size]? = some (.cells #[.int .i64 k, .string s, .int .i64 m, .slice a l.length cap] 30 (0, 0))) (fun _ i _ => l.length - (intOf i).toNat)
    case atStart => exact ⟨0, n - 1, Nat.zero_le _, rfl, rfl, by omega, by omega, by simp, below_alloc _ _, B0.out⟩
    case round =>
      obtain ⟨j, v, hj, rfl, rfl, hv0, hv1, hL, hb, hB⟩ := hrel
      obtain ⟨p0, p1, p2, p3, p4, p5, p6, p7, p8⟩ := box4 hB
      have HBB := Lib.hid hB
      by_cases hlt : j < l.length
      · by_cases hv : 0 ≤ v
        · obtain ⟨x, hx⟩ : ∃ x, l[j]? = some x := ⟨_, List.getElem?_eq_getElem hlt⟩
          have hxm := List.mem_of_getElem? hx
          have hdr : l.drop j = x :: l.drop (j + 1) := by
            rw [List.drop_eq_getElem_cons hlt]
            rw [List.getElem?_eq_getElem hlt] at hx
            injection hx with hx
            rw [hx]
          obtain ⟨b, o, xcs, rfl, -, hRx, hcell⟩ := hl.get hx
          have hA' := hA.below hb
          have hcall := Lib.hid (fun W hW => ih x hxm v xcs H W hRx (hA'.below hW) hv (by omega))
          have hbd := Tm.left_bd x v hv
          rw [hdr, Tm.leftL_cons, if_pos hv] at hL
          obtain ⟨xa, xc, rfl, -, -, -, -⟩ := hRx.open_
          have c0 := hA'.cell (hcell 0 _ rfl)
          have c1 := hA'.cell (hcell 1 _ rfl)
          have c2 := hA'.cell (hcell 2 _ rfl)
          have c3 := hA'.cell (hcell 3 _ rfl)
          simp only [Nat.add_zero, ← Nat.add_assoc] at c0 c1 c2 c3
          have hbl := World.block_lt_of_cell? wr _ c0
          have HL := Lib.hid hL
          generalize hz : x.leftT v = z at *
          obtain ⟨hbd1, hbd2⟩ := hbd
          clear hL hx hcell hdr hRx hxm hB
          go_wp2_with fail
          refine (hcall.out _ (Below.refl _ _)).mono ?_
          rintro e w2 ⟨rfl, hb2⟩
          go_wp2_with fail
          go_roundw
          case rel => exact ⟨j + 1, z, by omega, by go_num, rfl, by omega, by omega, HL.out, hb.trans (hb2.mono hb.size), Below.blk hb2 HBB.out⟩
          case measure => simp [intOf]; omega
        · have HL := Lib.hid hL
          have hd : decide (0 ≤ v) = false := decide_eq_false hv
          clear hL hB
          go_wp2_with fail
          go_ret
          refine ⟨?_, hb⟩
          rw [hg.out, HL.out, Tm.leftL_neg _ _ (by omega)]
          rfl
      · have hjl : j = l.length := by omega
        have HL := Lib.hid hL
        have HJ := Lib.hid hjl
        have hd2 : decide ((j : Int) < (l.length : Int)) = false := decide_eq_false (by omega)
        clear hL hjl hB
        go_wp2_with fail
        go_ret
        refine ⟨?_, hb⟩
        rw [hg.out, HL.out, HJ.out, List.drop_length, Tm.leftL_nil]
        rfl
theorem ref_Large (t : Tm) (n : Int) (cs : List Value) (H : GH) (w : World) (hR : Rep H t cs) (hA : Agree H w) (h0 : 0 ≤ n) (h1 : n ≤ 1099511627776) :
    Calls Try.prog 22 #[.agg cs.toArray, .int .i64 n] w fun e w' => e = .returned (.bool (decide (t.leftT n < 0))) ∧ Below w.heap.size w w' := by
  have hl := Lib.hid (fun W hW => ref_left t n cs H W hR hW h0 h1)
  obtain ⟨a, cap, rfl, -, -, -, -⟩ := hR.open_
  go_enter Try.func22, Try.ntmps22
  go_wp2_with fail
  refine (hl.out _ (hA.alloc _)).mono ?_
  generalize hz : t.leftT n = z
  rintro e w1 ⟨rfl, hb⟩
  go_wp2_with fail
  go_ret
  exact ⟨ret_bool (by simp [hz]), (below_alloc _ _).trans (hb.mono (below_alloc _ _).size)⟩
end Go.Proofs.Ytbdappbmlnpogaa
namespace Go.Proofs.Ytbdappbmlnpogaa
open Go Go.RowKit
set_option maxRecDepth 100000
set_option maxHeartbeats 4000000 in
theorem ref_Near (n : Int) (hn0 : 0 ≤ n) (hn1 : n ≤ 1099511627776) (t : Tm) : ∀ (cs : List Value) (H : GH) (w : World), Rep H t cs → Agree H w →
    Calls Try.prog 23 #[.agg cs.toArray, .int .i64 n] w fun e w' => e = .returned (.bool (t.nearT n)) ∧ Below w.heap.size w w' := by
  induction t using Tm.ind with
  | h k s m l ih =>
    intro cs H w hR hA
    have hg := Lib.hid (Tm.nearT_mk n k s m l)
    obtain ⟨a, cap, rfl, -, -, -, hl⟩ := hR.open_
    simp only [Tm.k_mk, Tm.s_mk, Tm.n_mk, Tm.l_mk] at *
    have hw1 := IntWalk.i64_in (-n) (by omega)
    have B0 := Lib.hid (show (w.alloc (.cells #[.int .i64 k, .string s, .int .i64 m, .slice a l.length cap] 30 (0, 0))).heap[w.heap.size]? = some (.cells #[.int .i64 k, .string s, .int .i64 m, .slice a l.length cap] 30 (0, 0)) from heap_alloc_new _ _)
    have hlen := hl.len
    have hlm := hlen.2.2
    have hll := hlen.2.1
    unfold maxLen at hlm
    clear hlen
    have key : (k == 2) = true ∨ ((k == 2) = false ∧ (n < m ∨ (¬ n < m ∧ (m < -n ∨ ¬ m < -n)))) := by
      cases (k == 2) with
      | true => exact .inl rfl
      | false => exact .inr ⟨rfl, by omega⟩
    have stop : Hid ((k == 2) = false → (n < m ∨ m < -n) → (Tm.mk k s m l).nearT n = false) := Lib.hid (fun h1 h2 => by
      rw [hg.out, h1]
      rcases h2 with h | h
      · rw [decide_eq_true h]; rfl
      · rw [decide_eq_true (p := m < -n) h]; simp)
    have go : Hid (((k == 2) = true ∨ (¬ n < m ∧ ¬ m < -n)) → (Tm.mk k s m l).nearT n = Tm.nearL n l) := Lib.hid (fun h => by
      rw [hg.out]
      rcases h with h | h
      · rw [h]; simp
      · rw [decide_eq_false h.1, decide_eq_false h.2]; simp)
    rcases key with b | ⟨b, b1 | ⟨b1, b2 | b2⟩⟩
    · have hgo := Lib.hid (go.out (.inl b))
      have b' : (k != 2) = false := by rw [bne, b]; rfl
      go_enter Try.func23, Try.ntmps23
      go_wp2_with fail
      go_loopw [5, 6] (fun i q wr => ∃ (j : Nat), j ≤ l.length ∧ i = .int .i64 j ∧ Below w.heap.size w wr ∧ wr.heap[w.heap.size]? = some (.cells #[.int .i64 k, .string s, .int .i64 m, .slice a l.length cap] 30 (0, 0)) ∧ Hid (∀ (i : Nat) (y : Tm), i < j → l[i]? = some y → y.nearT n = true)) (fun i _ _ => l.length - (intOf i).toNat)
      case atStart => exact ⟨0, Nat.zero_le _, rfl, below_alloc _ _, B0.out, fun i y hi => absurd hi (by omega)⟩
      case round =>
        obtain ⟨j, hj, rfl, hb, hB, hall⟩ := hrel
        obtain ⟨p0, p1, p2, p3, p4, p5, p6, p7, p8⟩ := box4 hB
        have HBB := Lib.hid hB
        by_cases hlt : j < l.length
        · obtain ⟨x, hx⟩ : ∃ x, l[j]? = some x := ⟨_, List.getElem?_eq_getElem hlt⟩
          have hxm := List.mem_of_getElem? hx
          obtain ⟨b', o, xcs, rfl, -, hRx, hcell⟩ := hl.get hx
          have hA' := hA.below hb
          have hcall := Lib.hid (fun W hW => ih x hxm xcs H W hRx (hA'.below hW))
          obtain ⟨xa, xc, rfl, -, -, -, -⟩ := hRx.open_
          have c0 := hA'.cell (hcell 0 _ rfl)
          have c1 := hA'.cell (hcell 1 _ rfl)
          have c2 := hA'.cell (hcell 2 _ rfl)
          have c3 := hA'.cell (hcell 3 _ rfl)
          simp only [Nat.add_zero, ← Nat.add_assoc] at c0 c1 c2 c3
          have hbl := World.block_lt_of_cell? wr _ c0
          have HX := Lib.hid hx
          have HXM := Lib.hid hxm
          clear hx hcell hRx hxm hB
          cases hz : x.nearT n with
          | true =>
            have HZ := Lib.hid hz
            rw [hz] at hcall
            clear hz
            go_wp2_with fail
            refine (hcall.out _ (Below.refl _ _)).mono ?_
            rintro e w2 ⟨rfl, hb2⟩
            go_wp2_with fail
            go_roundw
            case rel =>
              refine ⟨j + 1, by omega, by go_num, hb.trans (hb2.mono hb.size), Below.blk hb2 HBB.out, fun i y hi hy => ?_⟩
              by_cases e : i = j
              · subst e
                rw [HX.out] at hy
                injection hy with hy
                subst hy
                exact HZ.out
              · exact hall.out i y (by omega) hy
            case measure => simp [intOf]; omega
          | false =>
            have HZ := Lib.hid hz
            rw [hz] at hcall
            clear hz
            go_wp2_with fail
            refine (hcall.out _ (Below.refl _ _)).mono ?_
            rintro e w2 ⟨rfl, hb2⟩
            go_wp2_with fail
            go_ret
            refine ⟨?_, hb.trans (hb2.mono hb.size)⟩
            rw [hgo.out]
            have : Tm.nearL n l = false := by
              cases h : Tm.nearL n l with
              | false => rfl
              | true => have := (Tm.nearL_iff n l).1 h x HXM.out; rw [HZ.out] at this; cases this
            rw [this]; rfl
        · have hd3 : decide ((j : Int) < (l.length : Int)) = false := decide_eq_false (by omega)
          have HJ := Lib.hid (show j = l.length by omega)
          clear hB
          go_wp2_with fail
          go_ret
          refine ⟨?_, hb⟩
          rw [hgo.out]
          have : Tm.nearL n l = true := (Tm.nearL_iff n l).2 fun y hy => by
            obtain ⟨i, hi⟩ := List.getElem?_of_mem hy
            exact hall.out i y (by have := (List.getElem?_eq_some_iff.1 hi).1; have := HJ.out; omega) hi
          rw [this]; rfl
    · have hst := Lib.hid (stop.out b (.inl b1))
      have b' : (k != 2) = true := by rw [bne, b]; rfl
      have hd1 : decide (n < m) = true := decide_eq_true b1
      go_enter Try.func23, Try.ntmps23
      go_wp2_with fail
      go_ret
      exact ⟨by rw [hst.out]; rfl, below_alloc _ _⟩
    · have hst := Lib.hid (stop.out b (.inr b2))
      have b' : (k != 2) = true := by rw [bne, b]; rfl
      have hd1 : decide (n < m) = false := decide_eq_false b1
      have hd2 : decide (m < -n) = true := decide_eq_true b2
      go_enter Try.func23, Try.ntmps23
      go_wp2_with fail
      go_ret
      exact ⟨by rw [hst.out]; rfl, below_alloc _ _⟩
    · have hgo := Lib.hid (go.out (.inr ⟨b1, b2⟩))
      have b' : (k != 2) = true := by rw [bne, b]; rfl
      have hd1 : decide (n < m) = false := decide_eq_false b1
      have hd2 : decide (m < -n) = false := decide_eq_false b2
      go_enter Try.func23, Try.ntmps23
      go_wp2_with fail
      go_loopw [5, 6] (fun i q wr => ∃ (j : Nat), j ≤ l.length ∧ i = .int .i64 j ∧ Below w.heap.size w wr ∧ wr.heap[w.heap.size]? = some (.cells #[.int .i64 k, .string s, .int .i64 m, .slice a l.length cap] 30 (0, 0)) ∧ Hid (∀ (i : Nat) (y : Tm), i < j → l[i]? = some y → y.nearT n = true)) (fun i _ _ => l.length - (intOf i).toNat)
      case atStart => exact ⟨0, Nat.zero_le _, rfl, below_alloc _ _, B0.out, fun i y hi => absurd hi (by omega)⟩
      case round =>
        obtain ⟨j, hj, rfl, hb, hB, hall⟩ := hrel
        obtain ⟨p0, p1, p2, p3, p4, p5, p6, p7, p8⟩ := box4 hB
        have HBB := Lib.hid hB
        by_cases hlt : j < l.length
        · obtain ⟨x, hx⟩ : ∃ x, l[j]? = some x := ⟨_, List.getElem?_eq_getElem hlt⟩
          have hxm := List.mem_of_getElem? hx
          obtain ⟨b', o, xcs, rfl, -, hRx, hcell⟩ := hl.get hx
          have hA' := hA.below hb
          have hcall := Lib.hid (fun W hW => ih x hxm xcs H W hRx (hA'.below hW))
          obtain ⟨xa, xc, rfl, -, -, -, -⟩ := hRx.open_
          have c0 := hA'.cell (hcell 0 _ rfl)
          have c1 := hA'.cell (hcell 1 _ rfl)
          have c2 := hA'.cell (hcell 2 _ rfl)
          have c3 := hA'.cell (hcell 3 _ rfl)
          simp only [Nat.add_zero, ← Nat.add_assoc] at c0 c1 c2 c3
          have hbl := World.block_lt_of_cell? wr _ c0
          have HX := Lib.hid hx
          have HXM := Lib.hid hxm
          clear hx hcell hRx hxm hB
          cases hz : x.nearT n with
          | true =>
            have HZ := Lib.hid hz
            rw [hz] at hcall
            clear hz
            go_wp2_with fail
            refine (hcall.out _ (Below.refl _ _)).mono ?_
            rintro e w2 ⟨rfl, hb2⟩
            go_wp2_with fail
            go_roundw
            case rel =>
              refine ⟨j + 1, by omega, by go_num, hb.trans (hb2.mono hb.size), Below.blk hb2 HBB.out, fun i y hi hy => ?_⟩
              by_cases e : i = j
              · subst e
                rw [HX.out] at hy
                injection hy with hy
                subst hy
                exact HZ.out
              · exact hall.out i y (by omega) hy
            case measure => simp [intOf]; omega
          | false =>
            have HZ := Lib.hid hz
            rw [hz] at hcall
            clear hz
            go_wp2_with fail
            refine (hcall.out _ (Below.refl _ _)).mono ?_
            rintro e w2 ⟨rfl, hb2⟩
            go_wp2_with fail
            go_ret
            refine ⟨?_, hb.trans (hb2.mono hb.size)⟩
            rw [hgo.out]
            have : Tm.nearL n l = false := by
              cases h : Tm.nearL n l with
              | false => rfl
              | true => have := (Tm.nearL_iff n l).1 h x HXM.out; rw [HZ.out] at this; cases this
            rw [this]; rfl
        · have hd3 : decide ((j : Int) < (l.length : Int)) = false := decide_eq_false (by omega)
          have HJ := Lib.hid (show j = l.length by omega)
          clear hB
          go_wp2_with fail
          go_ret
          refine ⟨?_, hb⟩
          rw [hgo.out]
          have : Tm.nearL n l = true := (Tm.nearL_iff n l).2 fun y hy => by
            obtain ⟨i, hi⟩ := List.getElem?_of_mem hy
            exact hall.out i y (by have := (List.getElem?_eq_some_iff.1 hi).1; have := HJ.out; omega) hi
          rw [this]; rfl
end Go.Proofs.Ytbdappbmlnpogaa
namespace Go.Proofs.Ytbdappbmlnpogaa
open Go Go.RowKit
set_option maxRecDepth 100000
set_option maxHeartbeats 8000000 in
theorem ref_Same (t : Tm) : ∀ (u : Tm) (cs ds : List Value) (H : GH) (w : World), Rep H t cs → Rep H u ds → Agree H w →
    Calls Try.prog 15 #[.agg cs.toArray, .agg ds.toArray] w fun e w' => e = .returned (.bool (t.same u)) ∧ Below w.heap.size w w' := by
  induction t using Tm.ind with
  | h k s m l ih =>
    intro u cs ds H w hR hU hA
    cases u with
    | mk k2 s2 m2 l2 =>
    have ht := Lib.hid (Tm.same_iff (.mk k s m l) (.mk k2 s2 m2 l2))
    have no : Hid (∀ h : ¬ (Tm.mk k s m l = Tm.mk k2 s2 m2 l2), (Tm.mk k s m l).same (.mk k2 s2 m2 l2) = false) := Lib.hid (fun h => by
      cases hh : (Tm.mk k s m l).same (.mk k2 s2 m2 l2) with
      | false => rfl
      | true => exact absurd (ht.out.1 hh) h)
    obtain ⟨a, cap, rfl, -, -, -, hl⟩ := hR.open_
    obtain ⟨a2, cap2, rfl, -, -, -, hl2⟩ := hU.open_
    simp only [Tm.k_mk, Tm.s_mk, Tm.n_mk, Tm.l_mk] at *
    have hlen := hl.len
    have hlm := hlen.2.2
    have hll := hlen.2.1
    have hlen2 := hl2.len
    have hlm2 := hlen2.2.2
    have hll2 := hlen2.2.1
    unfold maxLen at hlm hlm2
    have B0 := Lib.hid (show ((w.alloc (.cells #[.int .i64 k, .string s, .int .i64 m, .slice a l.length cap] 30 (0, 0))).alloc (.cells #[.int .i64 k2, .string s2, .int .i64 m2, .slice a2 l2.length cap2] 30 (0, 0))).heap[w.heap.size]? = some (.cells #[.int .i64 k, .string s, .int .i64 m, .slice a l.length cap] 30 (0, 0)) from Below.blk (below_alloc _ _) (heap_alloc_new _ _))
    have B1 := Lib.hid (show ((w.alloc (.cells #[.int .i64 k, .string s, .int .i64 m, .slice a l.length cap] 30 (0, 0))).alloc (.cells #[.int .i64 k2, .string s2, .int .i64 m2, .slice a2 l2.length cap2] 30 (0, 0))).heap[w.heap.size + 1]? = some (.cells #[.int .i64 k2, .string s2, .int .i64 m2, .slice a2 l2.length cap2] 30 (0, 0)) from heap_alloc_at _ _ _ (by simp))
    have BW : Below w.heap.size w ((w.alloc (.cells #[.int .i64 k, .string s, .int .i64 m, .slice a l.length cap] 30 (0, 0))).alloc (.cells #[.int .i64 k2, .string s2, .int .i64 m2, .slice a2 l2.length cap2] 30 (0, 0))) := (below_alloc _ _).trans ((below_alloc _ _).mono (below_alloc _ _).size)
    have BW := Lib.hid BW
    clear hlen hlen2 hR hU
    cases hk : (k == k2) with
    | false =>
      have hk' : (k != k2) = true := by rw [bne, hk]; rfl
      have hn := Lib.hid (no.out (fun h => by injection h with h; exact beq_eq_false_iff_ne.1 hk h))
      go_enter Try.func15, Try.ntmps15
      go_wp2_with fail
      go_ret
      exact ⟨by rw [hn.out]; rfl, BW.out⟩
    | true =>
      have hk' : (k != k2) = false := by rw [bne, hk]; rfl
      by_cases hs : s = s2
      · subst hs
        cases hm : (m == m2) with
        | false =>
          have hm' : (m != m2) = true := by rw [bne, hm]; rfl
          have hn := Lib.hid (no.out (fun h => by injection h with _ _ h; exact beq_eq_false_iff_ne.1 hm h))
          go_enter Try.func15, Try.ntmps15
          go_wp2_with fail
          go_ret
          exact ⟨by rw [hn.out]; rfl, BW.out⟩
        | true =>
          have hm' : (m != m2) = false := by rw [bne, hm]; rfl
          by_cases hln : l.length = l2.length
          · have hk2 : k = k2 := beq_iff_eq.1 hk
            have hm2 : m = m2 := beq_iff_eq.1 hm
            subst hk2
            subst hm2
            clear hk hk' hm hm'
            have yes : Hid ((∀ (i : Nat) (y z : Tm), l[i]? = some y → l2[i]? = some z → y.same z = true) → (Tm.mk k s m l).same (Tm.mk k s m l2) = true) := Lib.hid (fun h => ht.out.2 (by
              congr 1
              refine List.ext_getElem hln (fun i h1 h2 => ?_)
              exact (Tm.same_iff _ _).1 (h i _ _ (List.getElem?_eq_getElem h1) (List.getElem?_eq_getElem h2))))
            have hl1 : ((l.length : Int) == (l2.length : Int)) = true := beq_iff_eq.2 (by omega)
            have hl2' : ((l.length : Int) != (l2.length : Int)) = false := by rw [bne, hl1]; rfl
            have hl3 : (l.length == l2.length) = true := beq_iff_eq.2 hln
            have hl4 : (l.length != l2.length) = false := by rw [bne, hl3]; rfl
            have HLN := Lib.hid hln
            clear hln
            go_enter Try.func15, Try.ntmps15
            go_wp2_with fail
            go_loopw [5, 6] (fun i q wr => ∃ (j : Nat), j ≤ l.length ∧ i = .int .i64 j ∧ Below w.heap.size w wr ∧ wr.heap[w.heap.size]? = some (.cells #[.int .i64 k, .string s, .int .i64 m, .slice a l.length cap] 30 (0, 0)) ∧ wr.heap[w.heap.size + 1]? = some (.cells #[.int .i64 k, .string s, .int .i64 m, .slice a2 l2.length cap2] 30 (0, 0)) ∧ Hid (∀ (i : Nat) (y z : Tm), i < j → l[i]? = some y → l2[i]? = some z → y.same z = true)) (fun i _ _ => l.length - (intOf i).toNat)
            case atStart => exact ⟨0, Nat.zero_le _, rfl, BW.out, B0.out, B1.out, fun i y z hi => absurd hi (by omega)⟩
            case round =>
              obtain ⟨j, hj, rfl, hb, hB, hB', hall⟩ := hrel
              obtain ⟨p0, p1, p2, p3, p4, p5, p6, p7, p8⟩ := box4 hB
              obtain ⟨q0, q1, q2, q3, q4, q5, q6, q7, q8⟩ := box4 hB'
              have HBB := Lib.hid hB
              have HBB' := Lib.hid hB'
              by_cases hlt : j < l.length
              · obtain ⟨x, hx⟩ : ∃ x, l[j]? = some x := ⟨_, List.getElem?_eq_getElem hlt⟩
                have hlt2 : j < l2.length := by have := HLN.out; omega
                obtain ⟨z, hz⟩ : ∃ z, l2[j]? = some z := ⟨_, List.getElem?_eq_getElem hlt2⟩
                have hxm := List.mem_of_getElem? hx
                obtain ⟨b', o, xcs, rfl, -, hRx, hcell⟩ := hl.get hx
                obtain ⟨b2, o2, zcs, rfl, -, hRz, hcell2⟩ := hl2.get hz
                have hA' := hA.below hb
                have hcall := Lib.hid (ih x hxm z xcs zcs H wr.drew hRx hRz hA'.drew)
                obtain ⟨xa, xc, rfl, -, -, -, -⟩ := hRx.open_
                obtain ⟨za, zc, rfl, -, -, -, -⟩ := hRz.open_
                have c0 := hA'.cell (hcell 0 _ rfl)
                have c1 := hA'.cell (hcell 1 _ rfl)
                have c2 := hA'.cell (hcell 2 _ rfl)
                have c3 := hA'.cell (hcell 3 _ rfl)
                have d0 := hA'.cell (hcell2 0 _ rfl)
                have d1 := hA'.cell (hcell2 1 _ rfl)
                have d2 := hA'.cell (hcell2 2 _ rfl)
                have d3 := hA'.cell (hcell2 3 _ rfl)
                simp only [Nat.add_zero, ← Nat.add_assoc] at c0 c1 c2 c3 d0 d1 d2 d3
                have hbl := World.block_lt_of_cell? wr _ c0
                have HX := Lib.hid hx
                have HZ := Lib.hid hz
                have hltI : (j : Int) < (l.length : Int) := by omega
                have hltI2 : (j : Int) < (l2.length : Int) := by omega
                clear hx hz hcell hcell2 hRx hRz hxm hB hB'
                cases hzz : x.same z with
                | true =>
                  have HZZ := Lib.hid hzz
                  rw [hzz] at hcall
                  clear hzz
                  go_wp2_with fail
                  go_still_tail 10, (by kernel_rfl)
                  change wpList _ _ _ _ _ wr.drew
                  go_wp2_with fail
                  refine hcall.out.mono ?_
                  rintro e w2 ⟨rfl, hb2⟩
                  have hb3 := ((Below.refl _ wr).drew).trans hb2
                  go_wp2_with fail
                  go_roundw
                  case rel =>
                    refine ⟨j + 1, by omega, by go_num, hb.trans (hb3.mono hb.size), Below.blk hb3 HBB.out, Below.blk hb3 HBB'.out, fun i y z' hi hy hz' => ?_⟩
                    by_cases e : i = j
                    · subst e
                      rw [HX.out] at hy
                      rw [HZ.out] at hz'
                      injection hy with hy
                      injection hz' with hz'
                      subst hy; subst hz'
                      exact HZZ.out
                    · exact hall.out i y z' (by omega) hy hz'
                  case measure => simp [intOf]; omega
                | false =>
                  have HZZ := Lib.hid hzz
                  rw [hzz] at hcall
                  clear hzz
                  go_wp2_with fail
                  go_still_tail 10, (by kernel_rfl)
                  change wpList _ _ _ _ _ wr.drew
                  go_wp2_with fail
                  refine hcall.out.mono ?_
                  rintro e w2 ⟨rfl, hb2⟩
                  have hb3 := ((Below.refl _ wr).drew).trans hb2
                  go_wp2_with fail
                  go_ret
                  refine ⟨?_, hb.trans (hb3.mono hb.size)⟩
                  rw [no.out (fun h => by
                    injection h with _ _ _ h
                    subst h
                    have e := HX.out.symm.trans HZ.out
                    injection e with e
                    subst e
                    have := (Tm.same_iff x x).2 rfl
                    rw [HZZ.out] at this
                    cases this)]
                  rfl
              · have hd3 : decide ((j : Int) < (l.length : Int)) = false := decide_eq_false (by omega)
                have HJ := Lib.hid (show j = l.length by omega)
                clear hB hB'
                go_wp2_with fail
                go_ret
                refine ⟨?_, hb⟩
                rw [yes.out (fun i y z hy hz => hall.out i y z (by have := (List.getElem?_eq_some_iff.1 hy).1; have := HJ.out; omega) hy hz)]
                rfl
          · have hl1 : ((l.length : Int) == (l2.length : Int)) = false := beq_eq_false_iff_ne.2 (by omega)
            have hl2' : ((l.length : Int) != (l2.length : Int)) = true := by rw [bne, hl1]; rfl
            have hl3 : (l.length == l2.length) = false := beq_eq_false_iff_ne.2 hln
            have hl4 : (l.length != l2.length) = true := by rw [bne, hl3]; rfl
            have hn := Lib.hid (no.out (fun h => by injection h with _ _ _ h; exact hln (by rw [h])))
            clear hln
            go_enter Try.func15, Try.ntmps15
            go_wp2_with fail
            go_ret
            exact ⟨by rw [hn.out]; rfl, BW.out⟩
      · have hn := Lib.hid (no.out (fun h => by injection h with _ h; exact hs h))
        have hs1 : (s.data.toList == s2.data.toList) = false := by
          cases h : (s.data.toList == s2.data.toList) with
          | false => rfl
          | true => exact absurd (Tm.ba_ext (beq_iff_eq.1 h)) hs
        have hs2 : (s.data.toList != s2.data.toList) = true := by rw [bne, hs1]; rfl
        have hs6 : ¬ s.toList = s2.toList := fun h => hs (Tm.ba_ext (by rw [← ByteArray.toList_eq, ← ByteArray.toList_eq]; exact h))
        have hs7 : (s.toList == s2.toList) = false := beq_eq_false_iff_ne.2 hs6
        have hs8 : (s.toList != s2.toList) = true := by rw [bne, hs7]; rfl
        have hs3 : ¬ s.data = s2.data := fun h => hs (Tm.ba_ext (by rw [h]))
        have hs4 : (s.data == s2.data) = false := beq_eq_false_iff_ne.2 hs3
        have hs5 : (s.data != s2.data) = true := by rw [bne, hs4]; rfl
        go_enter Try.func15, Try.ntmps15
        go_wp2_with fail
        go_ret
        exact ⟨by rw [hn.out]; rfl, BW.out⟩
end Go.Proofs.Ytbdappbmlnpogaa
