/- The law's row: are terms more than is looked at? -/
import Derived.Test.YtbdappbmlnpogaaWorks
namespace Go.Proofs.Ytbdappbmlnpogaa
open Go Go.RowKit
set_option maxRecDepth 100000
/-- What is small enough to be looked at. -/
def SmallT (t : Tm) : Prop := t.size ≤ 24 ∧ t.bnd 1000 = true
def RowPost (w : World) (l : List Tm) (e : Ending) (w' : World) : Prop := ∃ b, e = .returned (.bool b) ∧ Below w.heap.size w w' ∧ (b = false → l.length ≤ 6 ∧ ∀ t ∈ l, SmallT t)
set_option maxHeartbeats 8000000 in
theorem law_row (H : GH) (w : World) (v : Value) (l : List Tm) (hA : Agree H w) (hK : Tms H v l) :
    Calls Try.prog 7 #[v] w (RowPost w l) := by
  obtain ⟨a, cap, rfl, hll, hlm⟩ := hK.form
  unfold maxLen at hlm
  by_cases h6 : 6 < (l.length : Int)
  · go_enter Try.func7, Try.ntmps7
    go_wp2_with fail
    go_ret
    exact ⟨true, rfl, Below.refl _ _, fun h => by cases h⟩
  · have hd6 : decide (6 < (l.length : Int)) = false := decide_eq_false h6
    go_enter Try.func7, Try.ntmps7
    go_wp2_with fail
    go_loopw [3, 4, 5] (fun i _ _ wr => ∃ (j : Nat), j ≤ l.length ∧ i = .int .i64 j ∧ Below w.heap.size w wr ∧ Hid (∀ (i : Nat) (y : Tm), i < j → l[i]? = some y → SmallT y)) (fun i _ _ _ => l.length - (intOf i).toNat)
    case atStart => exact ⟨0, Nat.zero_le _, rfl, Below.refl _ _, fun i y hi => absurd hi (by omega)⟩
    case round =>
      obtain ⟨j, hj, rfl, hb, hall⟩ := hrel
      by_cases hlt : j < l.length
      · obtain ⟨x, hx⟩ : ∃ x, l[j]? = some x := ⟨_, List.getElem?_eq_getElem hlt⟩
        obtain ⟨b, o, cs, rfl, -, hRx, hcell⟩ := hK.get hx
        have hA' := hA.below hb
        have h1 := Lib.hid (ref_Large x 24 cs H wr hRx hA' (by omega) (by omega))
        have h2 := Lib.hid (fun W hW => ref_Near 1000 (by omega) (by omega) x cs H W hRx hW)
        obtain ⟨xa, xc, rfl, -, -, -, -⟩ := hRx.open_
        have c0 := hA'.cell (hcell 0 _ rfl)
        have c1 := hA'.cell (hcell 1 _ rfl)
        have c2 := hA'.cell (hcell 2 _ rfl)
        have c3 := hA'.cell (hcell 3 _ rfl)
        simp only [Nat.add_zero, ← Nat.add_assoc] at c0 c1 c2 c3
        have hbl := World.block_lt_of_cell? wr _ c0
        have HX := Lib.hid hx
        have HA := Lib.hid hA'
        have HC := Lib.hid (And.intro c0 (And.intro c1 (And.intro c2 c3)))
        clear hx hcell hRx hA'
        generalize hlg : decide (x.leftT 24 < 0) = lg at *
        go_wp2_with fail
        refine h1.out.mono ?_
        rintro e w2 ⟨rfl, hb2⟩
        have d0 := ((bcell hb2).1 _ _ hbl).trans HC.out.1
        have d1 := ((bcell hb2).1 _ _ hbl).trans HC.out.2.1
        have d2 := ((bcell hb2).1 _ _ hbl).trans HC.out.2.2.1
        have d3 := ((bcell hb2).1 _ _ hbl).trans HC.out.2.2.2
        have hbl2 : b < w2.heap.size := Nat.lt_of_lt_of_le hbl hb2.size
        clear c0 c1 c2 c3 hbl
        go_wp2_with fail
        refine (h2.out _ (HA.out.below hb2)).mono ?_
        generalize hnr : x.nearT 1000 = nr at *
        rintro e w3 ⟨rfl, hb3⟩
        have hb4 := hb.trans ((hb2.trans (hb3.mono hb2.size)).mono hb.size)
        clear h1 h2 d0 d1 d2 d3
        cases lg with
        | true =>
          go_wp2_with fail
          go_ret
          exact ⟨true, rfl, hb4, fun h => by cases h⟩
        | false =>
          cases nr with
          | false =>
            go_wp2_with fail
            go_ret
            exact ⟨true, rfl, hb4, fun h => by cases h⟩
          | true =>
            have HL := Lib.hid hlg
            have HN := Lib.hid hnr
            clear hlg hnr
            go_wp2_with fail
            go_roundw
            case rel =>
              refine ⟨j + 1, by omega, by go_num, hb4, fun i y hi hy => ?_⟩
              by_cases e : i = j
              · subst e
                rw [HX.out] at hy
                injection hy with hy
                subst hy
                have h0 : 0 ≤ x.leftT 24 := by have := of_decide_eq_false HL.out; omega
                have := Tm.left_size x 24 h0
                exact ⟨by omega, Tm.near_bnd 1000 x HN.out⟩
              · exact hall.out i y (by omega) hy
            case measure => simp [intOf]; omega
      · have hd3 : decide ((j : Int) < (l.length : Int)) = false := decide_eq_false (by omega)
        have HJ := Lib.hid (show j = l.length by omega)
        go_wp2_with fail
        go_ret
        refine ⟨false, rfl, hb, fun _ => ⟨by omega, fun t ht => ?_⟩⟩
        obtain ⟨i, hi⟩ := List.getElem?_of_mem ht
        exact hall.out i t (by have := (List.getElem?_eq_some_iff.1 hi).1; have := HJ.out; omega) hi
end Go.Proofs.Ytbdappbmlnpogaa
