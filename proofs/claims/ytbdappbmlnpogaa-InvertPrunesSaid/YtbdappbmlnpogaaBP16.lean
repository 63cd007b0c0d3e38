/- InvertPrunes: for every input the law returns true: a variable that is pruned is, in full, a new variable of its own level that hangs on just those constants that are kept; and a variable that is not there, or bound, is refused. -/
import Derived.Test.YtbdappbmlnpogaaBP15
import Derived.Test.YtbdappbmlnpogaaRows
import Derived.ShutString
import Derived.ChangeOld
import Derived.Below
namespace Go.Proofs.Ytbdappbmlnpogaa
open Go.ChangeShapes Go.WideShapes Go.ChangeAt Go.RowKit
theorem rows_own_p : ownKnob Try.prog.godebug = none := by kernel_rfl
theorem rows_laidOut_p : laidOutB Try.prog = true := by kernel_rfl
section
set_option maxRecDepth 100000
variable {Hh : Type} {enc : TypeId × Value → Hh} {W : World} {base : Nat} {spare : Nat → Bool} {held : Bool}
/-- A slice of elements of which it is known how they read. -/
theorem sl_of_trod {α : Type} {S E : TypeId} {sz : Nat} {P : α → List Value → Prop} (hu : (Try.prog).underlying S = some (.slice E)) (hc : (Try.prog).cellsOf E = sz) (h0 : 0 < sz) (z : α)
    (hs : ∀ m cs x, DataW.trod enc Try.prog W base spare held m E cs = some x → ∃ t, P t cs) {n : Nat} (cs : List Value) (x : DataW Hh × List MemPlace) (h : DataW.trod enc Try.prog W base spare held n S cs = some x) : ∃ v l, cs = [v] ∧ Sl (WG W) sz P v l := by
  rcases DataW.trod_slice hu h with ⟨rfl, -⟩ | ⟨a, len, cap, elems, rest, n', hn, rfl, -, -, hl, hm, hlen, hel, -, -⟩
  · exact ⟨_, [], rfl, Sl.nil _ _ _⟩
  · rw [hc] at hel
    have hch : ∀ i : Nat, ∃ (t : α) (C : List Value), i < len → (W.cells? base (a.add (i * sz)) sz = some C ∧ P t C) := by
      intro i
      by_cases hi : i < len
      · have key := hel i hi
        rw [List.getElem?_eq_getElem (by omega)] at key
        obtain ⟨C, h1, h2⟩ := Option.bind_eq_some_iff.1 key
        obtain ⟨t, ht⟩ := hs _ C _ h2
        exact ⟨t, C, fun _ => ⟨h1, ht⟩⟩
      · exact ⟨z, [], fun h => absurd h hi⟩
    let ft := fun i => (hch i).choose
    let fc := fun i => (hch i).choose_spec.choose
    have hfc : ∀ i, i < len → (W.cells? base (a.add (i * sz)) sz = some (fc i) ∧ P (ft i) (fc i)) := fun i hi => (hch i).choose_spec.choose_spec hi
    have hll : ((List.range len).map ft).length = len := by simp
    refine ⟨_, (List.range len).map ft, rfl, some a, cap, fc, by rw [hll], by rw [hll]; exact hl, hm, fun hp => ?_, fun i t hi => ?_⟩
    · rw [hll] at hp ⊢
      obtain ⟨b, off, spot⟩ := a
      have h00 := hfc 0 hp
      obtain ⟨-, hl4, hat⟩ := World.cells?_some h00.1
      have hspot : spot = none := by
        have h1 := hat 0 h0
        rw [List.getElem?_eq_getElem (by omega)] at h1
        simpa [Addr.add] using World.cell?_spot h1
      subst hspot
      refine ⟨b, off, rfl, fun i hi => ?_⟩
      obtain ⟨-, hl5, hat⟩ := World.cells?_some (hfc i hi).1
      refine ⟨hl5, fun j u hu => ?_⟩
      have hj : j < sz := by have := (List.getElem?_eq_some_iff.1 hu).1; omega
      have h1 := (hat j hj).trans hu
      rw [WG.cell]
      rw [Addr.add_lit, Addr.add_lit, Nat.add_assoc] at h1
      exact h1
    · have hi' := (List.getElem?_eq_some_iff.1 hi).1
      rw [hll] at hi'
      have : t = ft i := by
        rw [List.getElem?_map, List.getElem?_range hi'] at hi
        simpa using hi.symm
      subst this
      exact (hfc i hi').2
theorem cells_var : (Try.prog).cellsOf 59 = 6 := by kernel_rfl
theorem inf_of_trod (n : Nat) (cs : List Value) (x : DataW Hh × List MemPlace) (h : DataW.trod enc Try.prog W base spare held n 59 cs = some x) : ∃ t, RepI (WG W) t cs := by
  obtain ⟨xs, n', hn, -, hlen, hxl, hf⟩ := DataW.trod_struct Try.underlying59 h
  rw [cells_var] at hlen
  match cs, hlen with
  | [c0, c1, c2, c3, c4, c5], _ =>
    have hg : ∀ i, i < 3 → ∃ y, xs[i]? = some y := fun i hi => ⟨_, List.getElem?_eq_getElem (by rw [hxl]; exact hi)⟩
    obtain ⟨y0, h0⟩ := hg 0 (by omega)
    obtain ⟨y1, h1⟩ := hg 1 (by omega)
    obtain ⟨y2, h2⟩ := hg 2 (by omega)
    have f0 : DataW.trod enc Try.prog W base spare held n' 3 (List.take ((Try.prog).cellsOf 3) (List.drop 0 [c0, c1, c2, c3, c4, c5])) = some y0 := (hf 0 _ rfl).trans h0
    have f1 : DataW.trod enc Try.prog W base spare held n' 4 (List.take ((Try.prog).cellsOf 4) (List.drop 1 [c0, c1, c2, c3, c4, c5])) = some y1 := (hf 1 _ rfl).trans h1
    have f2 : DataW.trod enc Try.prog W base spare held n' 30 (List.take ((Try.prog).cellsOf 30) (List.drop 2 [c0, c1, c2, c3, c4, c5])) = some y2 := (hf 2 _ rfl).trans h2
    have e3 : (Try.prog).cellsOf 3 = 1 := by kernel_rfl
    have e4 : (Try.prog).cellsOf 4 = 1 := by kernel_rfl
    rw [e3] at f0
    rw [e4] at f1
    rw [cells_tm] at f2
    simp only [List.drop_succ_cons, List.drop_zero, List.take_succ_cons, List.take_zero] at f0 f1 f2
    obtain ⟨k, k1, -, k2⟩ := DataW.trod_int Try.underlying3 f0
    obtain ⟨b, b1, -⟩ := DataW.trod_bool Try.underlying4 f1
    obtain ⟨t, ht⟩ := (reads n').1 _ _ f2
    injection k1 with k1
    injection b1 with b1
    subst k1; subst b1
    exact ⟨⟨k, b, t⟩, _, rfl, ht, bounds_i64 k2⟩
theorem vrs_of_trod {n : Nat} {cs : List Value} {x : DataW Hh × List MemPlace} (h : DataW.trod enc Try.prog W base spare held n 22 cs = some x) : ∃ v l, cs = [v] ∧ Vrs (WG W) v l :=
  sl_of_trod Try.underlying22 cells_var (by omega) ⟨0, false, Tm.zero⟩ inf_of_trod cs x h
theorem bools_of_trod {n : Nat} {cs : List Value} {x : DataW Hh × List MemPlace} (h : DataW.trod enc Try.prog W base spare held n 23 cs = some x) : ∃ v l, cs = [v] ∧ Sl (WG W) 1 BoolP v l :=
  sl_of_trod Try.underlying23 (by kernel_rfl) (by omega) false (fun m cs x h => by
    obtain ⟨b, hb, -⟩ := DataW.trod_bool Try.underlying4 h
    exact ⟨b, hb⟩) cs x h
end
set_option maxRecDepth 100000 in
theorem prunes_lifted (os : Os) (started : os.Started) (H : Type) (enc : TypeId × Value → H) :
    ReturnsInHanded {} Try.checked os 3 .any (Rows.invertPrunesSpec.pre6 enc Try.prog Try.f3 Rows.invertPrunesRow.domain false) (Rows.invertPrunesSpec.post enc Try.prog Try.f3 false true false false) := by
  refine returnsInHanded_of_change (C := Try.checked) rows_own_p started (by kernel_rfl) Try.func3
    (ChangeSpec.witness6 (enc := enc) (C := Try.checked) false ⟨#[], #[.slice none 0 0, .int .i64 0, .slice none 0 0, .slice none 0 0], []⟩ 8 (by kernel_rfl) (by kernel_rfl) (by kernel_rfl) (by kernel_rfl)) ?_
  intro W base args ds gs before hval0 hW hcnd _
  have hval : ∀ (j : Nat) t v, Try.f3.params[j]? = some t → args[j]? = some v → Value.okWide Try.prog W .any base t v := hval0
  have hW' := hW
  obtain ⟨p, q, hA0, hV, rfl, hfz, hnd⟩ := hW
  have hA : DataW.TrodAll enc Try.prog W 0 (fun _ => true) true Try.f3.params.toList args.toList ds p := hA0
  rw [Try.params3] at hA hval
  obtain ⟨v0, vs0, d0, ds0, p0, q0, hargs, rfl, rfl, h0, r0⟩ := trodAll_cons hA
  obtain ⟨v1, vs1, d1, ds1, p1, q1, rfl, rfl, rfl, h1, r1⟩ := trodAll_cons r0
  obtain ⟨v2, vs2, d2, ds2, p2, q2, rfl, rfl, rfl, h2, r2⟩ := trodAll_cons r1
  obtain ⟨v3, vs3, d3, ds3, p3, q3, rfl, rfl, rfl, h3, r3⟩ := trodAll_cons r2
  obtain ⟨rfl, rfl, rfl⟩ := trodAll_nil r3
  obtain rfl : args = #[v0, v1, v2, v3] := by cases args; simp_all
  obtain ⟨rfl, rfl⟩ := trodVars_none hV
  have k0 := h0
  have lt0 : ∀ x ∈ p0, x.block < W.heap.size := by obtain ⟨m, hm⟩ := k0; exact DataW.trod_lt m _ _ _ hm
  have k2 := h2
  have lt2 : ∀ x ∈ p2, x.block < W.heap.size := by obtain ⟨m, hm⟩ := k2; exact DataW.trod_lt m _ _ _ hm
  have k3 := h3
  have lt3 : ∀ x ∈ p3, x.block < W.heap.size := by obtain ⟨m, hm⟩ := k3; exact DataW.trod_lt m _ _ _ hm
  obtain ⟨a0, len0, cap0, rfl⟩ := okWide_slice Try.underlying22 (hval 0 22 v0 rfl rfl)
  obtain ⟨l, w0⟩ : ∃ l, Vrs (WG W) (.slice a0 len0 cap0) l := by
    obtain ⟨fuel, hf⟩ := h0
    obtain ⟨v, l, hcs, hl⟩ := vrs_of_trod hf
    simp [Value.cells] at hcs
    subst hcs
    exact ⟨l, hl⟩
  obtain ⟨a1, rfl, rfl, rfl, w1⟩ := open_int Try.underlying3 (hval 1 3 v1 rfl rfl) h1
  obtain ⟨a2, len2, cap2, rfl⟩ := okWide_slice Try.underlying23 (hval 2 23 v2 rfl rfl)
  obtain ⟨bs, w2⟩ : ∃ l, Sl (WG W) 1 BoolP (.slice a2 len2 cap2) l := by
    obtain ⟨fuel, hf⟩ := h2
    obtain ⟨v, l, hcs, hl⟩ := bools_of_trod hf
    simp [Value.cells] at hcs
    subst hcs
    exact ⟨l, hl⟩
  obtain ⟨a3, len3, cap3, rfl⟩ := okWide_slice Try.underlying24 (hval 3 24 v3 rfl rfl)
  obtain ⟨tl, w3⟩ : ∃ l, Tms (WG W) (.slice a3 len3 cap3) l := by
    obtain ⟨fuel, hf⟩ := h3
    obtain ⟨v, l, hcs, hl⟩ := (reads fuel).2 _ _ hf
    simp [Value.cells] at hcs
    subst hcs
    exact ⟨l, hl⟩
  clear hA0 hval0
  refine (law_InvertPrunes (WG W) W _ l a1 _ bs _ tl (WG.agree W) w0 (bounds_i64 w1) w2 w3).mono fun e W' ⟨he, bel⟩ => ?_
  subst he
  exact ⟨_, rfl, _, _, _, [], _, [], hW', trodAll_mk1 (shut_bool Try.underlying4 _), (trodAll_cons_mk (Below.trod rows_laidOut_p (by kernel_rfl) (of_decide_eq_true (by kernel_rfl)) k0 bel lt0) (trodAll_cons_mk (shut_int Try.underlying3 w1) (trodAll_cons_mk (Below.trod rows_laidOut_p (by kernel_rfl) (of_decide_eq_true (by kernel_rfl)) k2 bel lt2) (trodAll_cons_mk (Below.trod rows_laidOut_p (by kernel_rfl) (of_decide_eq_true (by kernel_rfl)) k3 bel lt3) trodAll_mk0)))), rfl, bel.frame _, fun h => by cases h⟩
theorem invert_prunes_holds : Rows.InvertPrunesSaid :=
  OpenClaim.holds_of_wide 3 Try.f3 rfl rfl rfl rfl rfl rfl rfl ⟨rfl, rfl, rfl, rfl, rfl⟩ rfl rfl rfl rfl rfl (by kernel_rfl) Try.func3 (by kernel_rfl)
    (of_decide_eq_true (by kernel_rfl)) (by unfold Func.isWrapper; first | (rw [if_pos (by decide +kernel)]; kernel_rfl) | (rw [if_neg (by decide +kernel)]; exact ⟨rfl, rfl⟩))
    (fun os started H enc _ => prunes_lifted os started H enc)
end Go.Proofs.Ytbdappbmlnpogaa
#print axioms Go.Proofs.Ytbdappbmlnpogaa.invert_prunes_holds
