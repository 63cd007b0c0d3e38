/- What comes in: terms and rows of terms, out of the row's own reading. -/
import Derived.Test.YtbdappbmlnpogaaBP14
import Derived.ProofKit
import Derived.OpenShut
import Derived.Deep.Slices
namespace Go.Proofs.Ytbdappbmlnpogaa
open Go Go.RowKit Go.ChangeShapes Go.WideShapes
set_option maxRecDepth 100000
/-- All that there is at the call, as what never changes. -/
def WG (W : World) : GH := fun k => W.heap[k]?
theorem WG.agree (W : World) : Agree (WG W) W := fun _ _ h => h
theorem WG.cell (W : World) (a : Addr) : (WG W).cell? a = W.cell? a := by
  unfold GH.cell? World.cell? WG
  cases W.heap[a.block]? with
  | none => rfl
  | some o => cases o <;> rfl
theorem cells_tm : (Try.prog).cellsOf 30 = 4 := by kernel_rfl
section
variable {Hh : Type} {enc : TypeId × Value → Hh} {W : World} {base : Nat} {spare : Nat → Bool} {held : Bool}
theorem rep_of_fields {n : Nat} (hs : ∀ cs x, DataW.trod enc Try.prog W base spare held n 24 cs = some x → ∃ v l, cs = [v] ∧ Tms (WG W) v l) (cs : List Value) (x : DataW Hh × List MemPlace) (h : DataW.trod enc Try.prog W base spare held (n + 1) 30 cs = some x) : ∃ t, Rep (WG W) t cs := by
  obtain ⟨xs, n', hn, -, hlen, hxl, hf⟩ := DataW.trod_struct Try.underlying30 h
  have hn : n' = n := by omega
  subst hn
  rw [cells_tm] at hlen
  match cs, hlen with
  | [c0, c1, c2, c3], _ =>
    have hg : ∀ i, i < 4 → ∃ y, xs[i]? = some y := fun i hi => ⟨_, List.getElem?_eq_getElem (by rw [hxl]; exact hi)⟩
    obtain ⟨y0, h0⟩ := hg 0 (by omega)
    obtain ⟨y1, h1⟩ := hg 1 (by omega)
    obtain ⟨y2, h2⟩ := hg 2 (by omega)
    obtain ⟨y3, h3⟩ := hg 3 (by omega)
    have f0 : DataW.trod enc Try.prog W base spare held n' 28 (List.take ((Try.prog).cellsOf 28) (List.drop 0 [c0, c1, c2, c3])) = some y0 := (hf 0 _ rfl).trans h0
    have f1 : DataW.trod enc Try.prog W base spare held n' 9 (List.take ((Try.prog).cellsOf 9) (List.drop 1 [c0, c1, c2, c3])) = some y1 := (hf 1 _ rfl).trans h1
    have f2 : DataW.trod enc Try.prog W base spare held n' 3 (List.take ((Try.prog).cellsOf 3) (List.drop 2 [c0, c1, c2, c3])) = some y2 := (hf 2 _ rfl).trans h2
    have f3 : DataW.trod enc Try.prog W base spare held n' 24 (List.take ((Try.prog).cellsOf 24) (List.drop 3 [c0, c1, c2, c3])) = some y3 := (hf 3 _ rfl).trans h3
    have e28 : (Try.prog).cellsOf 28 = 1 := by kernel_rfl
    have e9 : (Try.prog).cellsOf 9 = 1 := by kernel_rfl
    have e3 : (Try.prog).cellsOf 3 = 1 := by kernel_rfl
    have e24 : (Try.prog).cellsOf 24 = 1 := by kernel_rfl
    rw [e28] at f0
    rw [e9] at f1
    rw [e3] at f2
    rw [e24] at f3
    simp only [List.drop_succ_cons, List.drop_zero, List.take_succ_cons, List.take_zero] at f0 f1 f2 f3
    obtain ⟨k, k1, -, k2⟩ := DataW.trod_int Try.underlying28 f0
    obtain ⟨s, s1, -, s2⟩ := DataW.trod_string Try.underlying9 f1
    obtain ⟨m, m1, -, m2⟩ := DataW.trod_int Try.underlying3 f2
    obtain ⟨v, l, v1, hl⟩ := hs _ _ f3
    injection k1 with k1
    injection s1 with s1
    injection m1 with m1
    injection v1 with v1
    subst k1; subst s1; subst m1; subst v1
    exact ⟨Tm.mk k s m l, Rep.shut (bounds_i64 k2) (bounds_i64 m2) s2 hl⟩
theorem tms_of_slice {n : Nat} (hs : ∀ cs x, DataW.trod enc Try.prog W base spare held n 30 cs = some x → ∃ t, Rep (WG W) t cs) (cs : List Value) (x : DataW Hh × List MemPlace) (h : DataW.trod enc Try.prog W base spare held (n + 1) 24 cs = some x) : ∃ v l, cs = [v] ∧ Tms (WG W) v l := by
  rcases DataW.trod_slice Try.underlying24 h with ⟨rfl, -⟩ | ⟨a, len, cap, elems, rest, n', hn, rfl, -, -, hl, hm, hlen, hel, -, -⟩
  · exact ⟨_, [], rfl, Sl.nil _ _ _⟩
  · have hn : n' = n := by omega
    subst hn
    rw [cells_tm] at hel
    have hch : ∀ i : Nat, ∃ (t : Tm) (C : List Value), i < len → (W.cells? base (a.add (i * 4)) 4 = some C ∧ Rep (WG W) t C) := by
      intro i
      by_cases hi : i < len
      · have key := hel i hi
        rw [List.getElem?_eq_getElem (by omega)] at key
        obtain ⟨C, h1, h2⟩ := Option.bind_eq_some_iff.1 key
        obtain ⟨t, ht⟩ := hs C _ h2
        exact ⟨t, C, fun _ => ⟨h1, ht⟩⟩
      · exact ⟨Tm.zero, [], fun h => absurd h hi⟩
    let ft := fun i => (hch i).choose
    let fc := fun i => (hch i).choose_spec.choose
    have hfc : ∀ i, i < len → (W.cells? base (a.add (i * 4)) 4 = some (fc i) ∧ Rep (WG W) (ft i) (fc i)) := fun i hi => (hch i).choose_spec.choose_spec hi
    have hll : ((List.range len).map ft).length = len := by simp
    refine ⟨_, (List.range len).map ft, rfl, some a, cap, fc, by rw [hll], by rw [hll]; exact hl, hm, fun hp => ?_, fun i t hi => ?_⟩
    · rw [hll] at hp ⊢
      obtain ⟨b, off, spot⟩ := a
      have h0 := hfc 0 hp
      obtain ⟨-, hl4, hat⟩ := World.cells?_some h0.1
      have hspot : spot = none := by
        have h1 := hat 0 (by omega)
        rw [List.getElem?_eq_getElem (by omega)] at h1
        simpa [Addr.add] using World.cell?_spot h1
      subst hspot
      refine ⟨b, off, rfl, fun i hi => ⟨(hfc i hi).2.len, fun j u hu => ?_⟩⟩
      obtain ⟨-, hl4, hat⟩ := World.cells?_some (hfc i hi).1
      have hj : j < 4 := by have := (List.getElem?_eq_some_iff.1 hu).1; omega
      have h1 := (hat j hj).trans hu
      rw [WG.cell]
      rw [Addr.add_lit, Addr.add_lit, Nat.add_assoc] at h1
      exact h1
    · have hi' := (List.getElem?_eq_some_iff.1 hi).1
      rw [hll] at hi'
      have : t = ft i := by
        rw [List.getElem?_map, List.getElem?_range hi'] at hi
        simpa using hi.symm
      subst this
      exact (hfc i hi').2
theorem reads : ∀ n : Nat, (∀ cs x, DataW.trod enc Try.prog W base spare held n 30 cs = some x → ∃ t, Rep (WG W) t cs) ∧ (∀ cs x, DataW.trod enc Try.prog W base spare held n 24 cs = some x → ∃ v l, cs = [v] ∧ Tms (WG W) v l) := by
  intro n
  induction n with
  | zero => exact ⟨fun cs x h => by simp [DataW.trod] at h, fun cs x h => by simp [DataW.trod] at h⟩
  | succ n ih => exact ⟨rep_of_fields ih.2, tms_of_slice ih.1⟩
theorem ints_of_trod {n : Nat} {cs : List Value} {x : DataW Hh × List MemPlace} (hsp : ∀ b, spare b = true) (h : DataW.trod enc Try.prog W base spare held n 48 cs = some x) : ∃ v l, cs = [v] ∧ Ints (WG W) v l := by
  rcases open_ints Try.underlying48 Try.underlying3 (by kernel_rfl) h with ⟨rfl, -⟩ | ⟨a, len, cap, zs, rfl, -, hl, hm, hz, -, hcell, hwz⟩
  · exact ⟨_, [], rfl, Sl.nil _ _ _⟩
  · rw [hsp, if_pos rfl] at hz
    have hll : (zs.take len).length = len := by rw [List.length_take]; omega
    refine ⟨_, zs.take len, rfl, some a, cap, fun i => [.int .i64 (zs.getD i 0)], by rw [hll], by rw [hll]; exact hl, hm, fun hp => ?_, fun i y hi => ?_⟩
    · rw [hll] at hp ⊢
      obtain ⟨b, off, rfl, hc⟩ := ints_at hcell (by omega)
      refine ⟨b, off, rfl, fun i hi => ⟨rfl, fun j u hu => ?_⟩⟩
      have hj : j = 0 := by have := (List.getElem?_eq_some_iff.1 hu).1; simp at this; omega
      subst hj
      simp at hu
      subst hu
      rw [WG.cell]
      have := hc i (by omega)
      simpa using this
    · have hi' := (List.getElem?_eq_some_iff.1 hi).1
      rw [hll] at hi'
      rw [List.getElem?_take, if_pos hi'] at hi
      have : zs.getD i 0 = y := by rw [List.getD_eq_getElem?_getD, hi]; rfl
      refine ⟨by show [Value.int .i64 (zs.getD i 0)] = _; rw [this], ?_⟩
      exact bounds_i64 (hwz y (List.mem_of_getElem? hi))
end
end Go.Proofs.Ytbdappbmlnpogaa
