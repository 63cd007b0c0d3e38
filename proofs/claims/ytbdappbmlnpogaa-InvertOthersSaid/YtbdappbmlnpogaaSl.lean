/- The library's functions on slices of terms: IndexFunc, ContainsFunc, Grow, Concat, Clone. -/
import Derived.Test.YtbdappbmlnpogaaLex
namespace Go.Proofs.Ytbdappbmlnpogaa
open Go Go.Proofs Go.RowKit
set_option maxRecDepth 100000
def tmBytes : Nat := 56
theorem isSl_tms : IsSl Try.prog 24 30 4 56 :=
  isSl_of (z := .agg #[.int .i64 0, .string ByteArray.empty, .int .i64 0, .slice none 0 0]) Try.underlying24 (by kernel_rfl) rfl (by decide)
/-- What a function value of a predicate on terms comes to, at the terms of a list. -/
def TmPred (g : FuncId) (caps : Array Value) (p : Tm → Bool) (H : GH) (w : World) (l : List Tm) : Prop :=
  ∀ t ∈ l, ∀ cs w', Below w.heap.size w w' → Rep H t cs → Calls Try.prog g (#[.agg cs.toArray] ++ caps) w' fun e w'' => e = .returned (.bool (p t)) ∧ Below w'.heap.size w' w''
set_option maxHeartbeats 1000000 in
theorem indexFunc (g : FuncId) (caps : Array Value) (eg : ∀ args w, (callFunc g args).run Try.prog w = .ok (.enter g args) w) (p : Tm → Bool) (H : GH) (w : World) (v : Value) (l : List Tm) (hs : Tms H v l) (hA : Agree H w)
    (hp : TmPred g caps p H w l) :
    Calls Try.prog 54 #[v, .func (.func g) #[] caps] w fun e w' => e = .returned (.int .i64 (idx p l 0)) ∧ Below w.heap.size w w' := by
  obtain ⟨a, cap, rfl, hl, hc⟩ := hs.form
  unfold maxLen at hc
  go_enter Try.func54, Try.ntmps54
  go_wp2
  go_loopw [8] (fun i wr => ∃ k : Nat, k ≤ l.length ∧ i = .int .i64 k ∧ Below w.heap.size w wr ∧ Hid (∀ (j : Nat) (y : Tm), j < k → l[j]? = some y → p y = false)) (fun i _ => l.length - (intOf i).toNat)
  case atStart => exact ⟨0, Nat.zero_le _, rfl, Below.refl _ _, fun j y hj => absurd hj (by omega)⟩
  case round =>
    obtain ⟨k, hk, rfl, hb, hn⟩ := hrel
    by_cases hlt : k < l.length
    · have hx : l[k]? = some l[k] := List.getElem?_eq_getElem hlt
      obtain ⟨b, o, cs, rfl, hcl, hR, hcell⟩ := hs.get hx
      have hA' := hA.below hb
      have hcall := hp l[k] (List.getElem_mem hlt) cs wr hb hR
      obtain ⟨a1, cap1, rfl, -⟩ := hR.open_
      have c0 := hA'.cell (hcell 0 _ rfl)
      have c1 := hA'.cell (hcell 1 _ rfl)
      have c2 := hA'.cell (hcell 2 _ rfl)
      have c3 := hA'.cell (hcell 3 _ rfl)
      simp only [Nat.add_zero, ← Nat.add_assoc] at c0 c1 c2 c3
      have Hx := Lib.hid hx
      have HC := Lib.hid hcall
      clear hx hcell hp hcall
      cases hq : p l[k] with
      | true =>
        have Hq := Lib.hid hq
        clear hq
        go_wp2_with fail
        refine HC.out.mono ?_
        rw [Hq.out]
        rintro e w' ⟨rfl, hb'⟩
        go_wp2_with fail
        go_ret
        refine ⟨?_, hb.trans (hb'.mono hb.size)⟩
        rw [idx_hit p l k 0 _ Hx.out Hq.out hn.out, Int.zero_add]
        rfl
      | false =>
        have Hq := Lib.hid hq
        clear hq
        go_wp2_with fail
        refine HC.out.mono ?_
        rw [Hq.out]
        rintro e w' ⟨rfl, hb'⟩
        go_wp2_with fail
        go_roundw
        case rel =>
          refine ⟨k + 1, by omega, by go_num, hb.trans (hb'.mono hb.size), fun j y hj hy => ?_⟩
          by_cases e : j = k
          · subst e
            rw [Hx.out] at hy
            injection hy with hy
            subst hy
            exact Hq.out
          · exact hn.out j y (by omega) hy
        case measure => simp [intOf]; omega
    · go_wp2
      go_ret
      refine ⟨?_, hb⟩
      rw [idx_miss p l 0 (fun j y hy => hn.out j y (by have := (List.getElem?_eq_some_iff.1 hy).1; omega) hy)]
      rfl
theorem containsFunc (g : FuncId) (caps : Array Value) (eg : ∀ args w, (callFunc g args).run Try.prog w = .ok (.enter g args) w) (p : Tm → Bool) (H : GH) (w : World) (v : Value) (l : List Tm) (hs : Tms H v l) (hA : Agree H w)
    (hp : TmPred g caps p H w l) :
    Calls Try.prog 26 #[v, .func (.func g) #[] caps] w fun e w' => e = .returned (.bool (l.any p)) ∧ Below w.heap.size w w' := by
  have h1 := Lib.hid (indexFunc g caps eg p H w v l hs hA hp)
  have h2 := Lib.hid (idx_any p l)
  clear hp hs hA
  go_enter Try.func26, Try.ntmps26
  go_wp2_with fail
  refine h1.out.mono ?_
  rintro e w' ⟨rfl, hb⟩
  go_wp2_with fail
  go_ret
  refine ⟨?_, hb⟩
  rw [← h2.out]
  simp
end Go.Proofs.Ytbdappbmlnpogaa
