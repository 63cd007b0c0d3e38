/- Terms in memory: a ghost heap of what never changes any more, slices and terms that lie in it, rows of the call's own. -/
import Derived.Test.YtbdappbmlnpogaaBP1
import Derived.WalkKit
import Derived.Lib.Hide
import Derived.Lib.AppendZerosOnto
import Derived.Maps.AppendAt
import Derived.Deep.QuietTactic
import Derived.BigQuiet
import Derived.Deep.RegionWith
namespace Go.Proofs.Ytbdappbmlnpogaa
open Go Go.RowKit

/-- The blocks that never change any more, and what they are. -/
abbrev GH := Nat → Option Obj
def GH.none_ : GH := fun _ => none
def Agree (H : GH) (w : World) : Prop := ∀ k o, H k = some o → w.heap[k]? = some o
def Sub (H H' : GH) : Prop := ∀ k o, H k = some o → H' k = some o
theorem Sub.refl (H : GH) : Sub H H := fun _ _ h => h
theorem Sub.trans {A B C : GH} (h : Sub A B) (h' : Sub B C) : Sub A C := fun k o e => h' k o (h k o e)
def GH.cell? (H : GH) (a : Addr) : Option Value :=
  match H a.block with
  | some (.cells c _ _) => if a.spot.isSome then none else c[a.off]?
  | _ => none
theorem GH.cell?_mono {H H' : GH} (h : Sub H H') {a : Addr} {v : Value} (hc : H.cell? a = some v) : H'.cell? a = some v := by
  unfold GH.cell? at hc ⊢
  cases hb : H a.block with
  | none => rw [hb] at hc; cases hc
  | some o => rw [h _ _ hb]; rw [hb] at hc; exact hc
theorem Agree.cell {H : GH} {w : World} (h : Agree H w) {a : Addr} {v : Value} (hc : H.cell? a = some v) : w.cell? a = some v := by
  unfold GH.cell? at hc
  unfold World.cell?
  cases hb : H a.block with
  | none => rw [hb] at hc; cases hc
  | some o => rw [h _ _ hb]; rw [hb] at hc; exact hc
theorem Agree.lt {H : GH} {w : World} (h : Agree H w) {k : Nat} {o : Obj} (hk : H k = some o) : k < w.heap.size :=
  (Array.getElem?_eq_some_iff.1 (h k o hk)).1
theorem Agree.free {H : GH} {w : World} (h : Agree H w) {k : Nat} (hk : w.heap.size ≤ k) : H k = none := by
  cases hb : H k with
  | none => rfl
  | some o => have := h.lt hb; omega
theorem Agree.below {H : GH} {w w' : World} (h : Agree H w) (hb : Below w.heap.size w w') : Agree H w' :=
  fun k o hk => (hb.block k (h.lt hk)).trans (h k o hk)
theorem agree_whole (w : World) : Agree (fun k => w.heap[k]?) w := fun _ _ h => h
theorem below_alloc (w : World) (o : Obj) : Below w.heap.size w (w.alloc o) := (Below.refl _ _).alloc (Nat.le_refl _) o
theorem below_drewN {B : Nat} {a w : World} (h : Below B a w) (n : Nat) : Below B a (w.drewN n) := ⟨h.os, h.tape, h.output, h.size, h.block⟩
theorem below_alloc_drewN (w : World) (o : Obj) (n : Nat) : Below w.heap.size w ((w.alloc o).drewN n) := below_drewN (below_alloc w o) n
theorem Agree.alloc {H : GH} {w : World} (h : Agree H w) (o : Obj) : Agree H (w.alloc o) := h.below (below_alloc w o)
theorem Agree.drew {H : GH} {w : World} (h : Agree H w) : Agree H w.drew := h.below (Below.refl _ _).drew
theorem Agree.setCell {H : GH} {w : World} (h : Agree H w) {p : Addr} (hp : H p.block = Option.none) (u : Value) : Agree H (w.setCell p u) :=
  fun k o hk => (Below.heap_setCell w p u k (fun e => by subst e; rw [hp] at hk; cases hk)).trans (h k o hk)
theorem Agree.grown {H : GH} {w w' : World} (h : Agree H w) {row : Option Nat} (hg : w.grownBy w' row) (hr : ∀ g, row = some g → H g = none) : Agree H w' :=
  fun k o hk => (hg.block k (h.lt hk) (fun e => by rw [hr k e.symm] at hk; cases hk)).trans (h k o hk)

/-- What a piece of a call does: blocks of O alone, of those that there were, may be written; what never changes stays, and only new blocks join it. -/
structure Ext (O : Nat → Prop) (H : GH) (w : World) (H' : GH) (w' : World) : Prop where
  sub : Sub H H'
  agree : Agree H' w'
  os : w'.os = w.os
  tape : w'.tape = w.tape
  output : w'.output = w.output
  size : w.heap.size ≤ w'.heap.size
  block : ∀ k, k < w.heap.size → ¬ O k → w'.heap[k]? = w.heap[k]?
  old : ∀ k, k < w.heap.size → H' k = H k
/-- Nothing that was there is written. -/
abbrev Pure (H : GH) (w : World) (H' : GH) (w' : World) : Prop := Ext (fun _ => False) H w H' w'
section
variable {O O' : Nat → Prop} {H H1 H2 : GH} {w w1 w2 : World}
theorem Ext.refl (h : Agree H w) : Ext O H w H w := ⟨Sub.refl _, h, rfl, rfl, rfl, Nat.le_refl _, fun _ _ _ => rfl, fun _ _ => rfl⟩
theorem Ext.trans (h : Ext O H w H1 w1) (h' : Ext O' H1 w1 H2 w2) (ho : ∀ k, O' k → k < w.heap.size → O k) : Ext O H w H2 w2 :=
  ⟨h.sub.trans h'.sub, h'.agree, h'.os.trans h.os, h'.tape.trans h.tape, h'.output.trans h.output, Nat.le_trans h.size h'.size,
    fun k hk hn => (h'.block k (Nat.lt_of_lt_of_le hk h.size) (fun ho' => hn (ho k ho' hk))).trans (h.block k hk hn),
    fun k hk => (h'.old k (Nat.lt_of_lt_of_le hk h.size)).trans (h.old k hk)⟩
theorem Ext.then (h : Ext O H w H1 w1) (h' : Pure H1 w1 H2 w2) : Ext O H w H2 w2 := h.trans h' (fun _ hf _ => hf.elim)
theorem Ext.mono (h : Ext O H w H1 w1) (ho : ∀ k, O k → O' k) : Ext O' H w H1 w1 :=
  ⟨h.sub, h.agree, h.os, h.tape, h.output, h.size, fun k hk hn => h.block k hk (fun x => hn (ho k x)), h.old⟩
theorem Ext.below (h : Pure H w H1 w1) : Below w.heap.size w w1 := ⟨h.os, h.tape, h.output, h.size, fun k hk => h.block k hk (fun x => x)⟩
theorem Ext.of_below (h : Agree H w) (hb : Below w.heap.size w w1) : Ext O H w H w1 :=
  ⟨Sub.refl _, h.below hb, hb.os, hb.tape, hb.output, hb.size, fun k hk _ => hb.block k hk, fun _ _ => rfl⟩
theorem Ext.then_below (h : Ext O H w H1 w1) (hb : Below w1.heap.size w1 w2) : Ext O H w H1 w2 := h.then (Ext.of_below h.agree hb)
theorem Ext.alloc (h : Ext O H w H1 w1) (o : Obj) : Ext O H w H1 (w1.alloc o) := h.then_below (below_alloc w1 o)
theorem Ext.drewN (h : Ext O H w H1 w1) (n : Nat) : Ext O H w H1 (w1.drewN n) := h.then_below (below_drewN (Below.refl _ _) n)
theorem Ext.drew (h : Ext O H w H1 w1) : Ext O H w H1 w1.drew := h.then_below (Below.refl _ _).drew
/-- A block of the call's own is written. -/
theorem Ext.setCell (h : Ext O H w H1 w1) {p : Addr} (hp : H1 p.block = none) (ho : p.block < w.heap.size → O p.block) (u : Value) : Ext O H w H1 (w1.setCell p u) :=
  ⟨h.sub, h.agree.setCell hp u, h.os, h.tape, h.output, by simpa [World.setCell] using h.size,
    fun k hk hn => (Below.heap_setCell w1 p u k (fun e => hn (by subst e; exact ho hk))).trans (h.block k hk hn), h.old⟩
theorem Ext.grown (h : Ext O H w H1 w1) {row : Option Nat} (hg : w1.grownBy w2 row) (hr : ∀ g, row = some g → H1 g = none) (ho : ∀ g, row = some g → g < w.heap.size → O g) : Ext O H w H1 w2 :=
  ⟨h.sub, h.agree.grown hg hr, hg.os.trans h.os, hg.tape.trans h.tape, hg.output.trans h.output, Nat.le_trans h.size hg.size,
    fun k hk hn => (hg.block k (Nat.lt_of_lt_of_le hk h.size) (fun e => hn (ho k e.symm hk))).trans (h.block k hk hn), h.old⟩
end
/-- A block joins what never changes. -/
def GH.put (H : GH) (g : Nat) (o : Obj) : GH := fun k => if k = g then some o else H k
theorem GH.put_same (H : GH) (g : Nat) (o : Obj) : H.put g o g = some o := by simp [GH.put]
theorem GH.put_other (H : GH) {g k : Nat} (o : Obj) (h : k ≠ g) : H.put g o k = H k := by simp [GH.put, h]
theorem GH.sub_put {H : GH} {g : Nat} (h : H g = none) (o : Obj) : Sub H (H.put g o) := fun k o' hk => by
  rw [GH.put_other H o (fun e => by subst e; rw [h] at hk; cases hk)]; exact hk
theorem Agree.put {H : GH} {w : World} (h : Agree H w) {g : Nat} {o : Obj} (hg : w.heap[g]? = some o) : Agree (H.put g o) w := fun k o' hk => by
  by_cases e : k = g
  · subst e; rw [GH.put_same] at hk; injection hk with hk; subst hk; exact hg
  · rw [GH.put_other H o e] at hk; exact h k o' hk
theorem Ext.put {O : Nat → Prop} {H H1 : GH} {w w1 : World} (h : Ext O H w H1 w1) {g : Nat} {o : Obj} (hg : w1.heap[g]? = some o) (hn : H1 g = none) (hs : w.heap.size ≤ g) : Ext O H w (H1.put g o) w1 :=
  ⟨h.sub.trans (GH.sub_put hn o), h.agree.put hg, h.os, h.tape, h.output, h.size, h.block, fun k hk => by rw [GH.put_other H1 o (by omega)]; exact h.old k hk⟩

theorem heap_alloc_at (X : World) (o : Obj) (n : Nat) (h : n = X.heap.size) : (X.alloc o).heap[n]? = some o := by subst h; exact heap_alloc_new X o
theorem bcell {W w1 : World} (hb : Below W.heap.size W w1) : (∀ b o, b < W.heap.size → w1.cell? ⟨b, o, none⟩ = W.cell? ⟨b, o, none⟩) ∧ (∀ b o, b < W.heap.size → w1.frozen? ⟨b, o, none⟩ = W.frozen? ⟨b, o, none⟩) :=
  ⟨fun b o h => hb.cell (p := ⟨b, o, none⟩) h, fun b o h => hb.frozen (p := ⟨b, o, none⟩) h⟩
/-! ### rows of elements of several cells, read -/
def I64 (n : Int) : Prop := -9223372036854775808 ≤ n ∧ n ≤ 9223372036854775807
/-- From a on there are n elements of sz cells each: the i-th one's are C i. -/
def RowAt (H : GH) (sz : Nat) (a : Option Addr) (n : Nat) (C : Nat → List Value) : Prop :=
  0 < n → ∃ b o, a = some ⟨b, o, none⟩ ∧ ∀ i, i < n → (C i).length = sz ∧ ∀ j u, (C i)[j]? = some u → H.cell? ⟨b, o + (i * sz + j), none⟩ = some u
theorem RowAt.mono {H H' : GH} (h : Sub H H') {sz : Nat} {a : Option Addr} {n : Nat} {C : Nat → List Value} (hr : RowAt H sz a n C) : RowAt H' sz a n C := fun hn => by
  obtain ⟨b, o, ha, hc⟩ := hr hn
  exact ⟨b, o, ha, fun i hi => ⟨(hc i hi).1, fun j u hu => GH.cell?_mono h ((hc i hi).2 j u hu)⟩⟩
/-- A slice whose elements are xs, each as P says. -/
def Sl {α : Type} (H : GH) (sz : Nat) (P : α → List Value → Prop) (v : Value) (xs : List α) : Prop :=
  ∃ a cap C, v = .slice a xs.length cap ∧ xs.length ≤ cap ∧ cap ≤ maxLen ∧ RowAt H sz a xs.length C ∧ ∀ i x, xs[i]? = some x → P x (C i)
theorem Sl.mono {α : Type} {H H' : GH} (h : Sub H H') {sz : Nat} {P P' : α → List Value → Prop} {v : Value} {xs : List α} (hp : ∀ x cs, x ∈ xs → P x cs → P' x cs) (hs : Sl H sz P v xs) : Sl H' sz P' v xs := by
  obtain ⟨a, cap, C, hv, hl, hc, hr, hx⟩ := hs
  exact ⟨a, cap, C, hv, hl, hc, hr.mono h, fun i x hi => hp x _ (List.mem_of_getElem? hi) (hx i x hi)⟩
theorem Sl.nil {α : Type} (H : GH) (sz : Nat) (P : α → List Value → Prop) : Sl H sz P (.slice none 0 0) [] :=
  ⟨none, 0, fun _ => [], rfl, by simp, by simp [maxLen], fun h => absurd h (by simp), fun i x hi => by simp at hi⟩
theorem Sl.nil' {α : Type} (H : GH) (sz : Nat) (P : α → List Value → Prop) (a : Option Addr) (c : Nat) (hc : c ≤ maxLen) : Sl H sz P (.slice a 0 c) [] :=
  ⟨a, c, fun _ => [], rfl, by simp, hc, fun h => absurd h (by simp), fun i x hi => by simp at hi⟩
/-- An element: where its cells lie, and what they say. -/
theorem Sl.get {α : Type} {H : GH} {sz : Nat} {P : α → List Value → Prop} {a : Option Addr} {n cap : Nat} {xs : List α} (h : Sl H sz P (.slice a n cap) xs) {i : Nat} {x : α} (hi : xs[i]? = some x) :
    ∃ b o cs, a = some ⟨b, o, none⟩ ∧ cs.length = sz ∧ P x cs ∧ ∀ j u, cs[j]? = some u → H.cell? ⟨b, o + (i * sz + j), none⟩ = some u := by
  obtain ⟨a', cap', C, hv, hl, hc, hr, hx⟩ := h
  injection hv with h1 h2 h3
  subst h1
  have hlt : i < xs.length := (List.getElem?_eq_some_iff.1 hi).1
  obtain ⟨b, o, ha, hcell⟩ := hr (by omega)
  exact ⟨b, o, C i, ha, (hcell i hlt).1, hx i x hi, (hcell i hlt).2⟩
theorem Sl.len {α : Type} {H : GH} {sz : Nat} {P : α → List Value → Prop} {a : Option Addr} {n cap : Nat} {xs : List α} (h : Sl H sz P (.slice a n cap) xs) : n = xs.length ∧ n ≤ cap ∧ cap ≤ maxLen := by
  obtain ⟨a', cap', C, hv, hl, hc, hr, hx⟩ := h
  injection hv with h1 h2 h3
  subst h2; subst h3
  exact ⟨rfl, hl, hc⟩
theorem Sl.form {α : Type} {H : GH} {sz : Nat} {P : α → List Value → Prop} {v : Value} {xs : List α} (h : Sl H sz P v xs) : ∃ a cap, v = .slice a xs.length cap ∧ xs.length ≤ cap ∧ cap ≤ maxLen := by
  obtain ⟨a', cap', C, hv, hl, hc, hr, hx⟩ := h
  exact ⟨a', cap', hv, hl, hc⟩

/-! ### terms -/
/-- The cells of a term, and of all in it, lie among what never changes. -/
inductive Rep (H : GH) : Tm → List Value → Prop where
  | mk (k : Int) (s : ByteArray) (n : Int) (l : List Tm) (a : Option Addr) (cap : Nat) (C : Nat → List Value) (hk : I64 k) (hn : I64 n) (hs : s.size ≤ maxLen) (hl : l.length ≤ cap) (hc : cap ≤ maxLen)
      (hr : RowAt H 4 a l.length C) (hx : ∀ i x, l[i]? = some x → Rep H x (C i)) : Rep H (.mk k s n l) [.int .i64 k, .string s, .int .i64 n, .slice a l.length cap]
theorem Rep.mono {H H' : GH} (h : Sub H H') {t : Tm} {cs : List Value} (hr : Rep H t cs) : Rep H' t cs := by
  induction hr with
  | mk k s n l a cap C hk hn hs hl hc hr hx ih => exact .mk k s n l a cap C hk hn hs hl hc (hr.mono h) ih
abbrev Tms (H : GH) (v : Value) (l : List Tm) : Prop := Sl H 4 (Rep H) v l
theorem Tms.mono {H H' : GH} (h : Sub H H') {v : Value} {l : List Tm} (hs : Tms H v l) : Tms H' v l := Sl.mono h (fun _ _ _ hp => hp.mono h) hs
/-- A term's cells, one by one. -/
theorem Rep.open_ {H : GH} {t : Tm} {cs : List Value} (h : Rep H t cs) :
    ∃ a cap, cs = [.int .i64 t.k, .string t.s, .int .i64 t.n, .slice a t.l.length cap] ∧ I64 t.k ∧ I64 t.n ∧ t.s.size ≤ maxLen ∧ Tms H (.slice a t.l.length cap) t.l := by
  cases h with
  | mk k s n l a cap C hk hn hs hl hc hr hx => exact ⟨a, cap, rfl, hk, hn, hs, a, cap, C, rfl, hl, hc, hr, hx⟩
theorem Rep.shut {H : GH} {k : Int} {s : ByteArray} {n : Int} {l : List Tm} {v : Value} (hk : I64 k) (hn : I64 n) (hs : s.size ≤ maxLen) (h : Tms H v l) : Rep H (.mk k s n l) [.int .i64 k, .string s, .int .i64 n, v] := by
  obtain ⟨a, cap, C, rfl, hl, hc, hr, hx⟩ := h
  exact .mk k s n l a cap C hk hn hs hl hc hr hx
theorem Rep.len {H : GH} {t : Tm} {cs : List Value} (h : Rep H t cs) : cs.length = 4 := by
  cases h with
  | mk => rfl
theorem Rep.one {H : GH} {t : Tm} {cs : List Value} (h : Rep H t cs) : ∀ u ∈ cs, u.oneCell' = true := by
  cases h with
  | mk => intro u hu; simp at hu; rcases hu with rfl | rfl | rfl | rfl <;> rfl

/-! ### rows of the call's own -/
/-- v is a row of the call's own (type e, sz cells an element, in blocks from base on), that may still be written; its elements are xs, each as P says. -/
def Own {α : Type} (H : GH) (w : World) (base : Nat) (e : TypeId) (sz : Nat) (P : α → List Value → Prop) (v : Value) (xs : List α) : Prop :=
  ∃ C : List Value, w.ownsRow base e sz v xs.length C ∧ (∀ g, v.ownBlock = some g → H g = none) ∧ ∀ i x, xs[i]? = some x → P x ((C.drop (i * sz)).take sz)
section
variable {α : Type} {O : Nat → Prop} {H H' : GH} {w w' : World} {base : Nat} {e : TypeId} {sz : Nat} {P P' : α → List Value → Prop} {v : Value} {xs : List α}
theorem Own.nil (H : GH) (w : World) (base : Nat) (e : TypeId) (sz : Nat) (P : α → List Value → Prop) : Own H w base e sz P (.slice none 0 0) [] :=
  ⟨[], World.ownsRow_nil w base e sz, fun g hg => by simp [Value.ownBlock] at hg, fun i x hi => by simp at hi⟩
theorem Own.lt (h : Own H w base e sz P v xs) : ∀ g, v.ownBlock = some g → base ≤ g ∧ g < w.heap.size := fun g hg => by
  obtain ⟨C, ho, _⟩ := h
  exact ho.lt g hg
theorem Own.free (h : Own H w base e sz P v xs) : ∀ g, v.ownBlock = some g → H g = none := by
  obtain ⟨C, _, hf, _⟩ := h
  exact hf
/-- What is called meanwhile leaves the row as it is. -/
theorem Own.ext (h : Own H w base e sz P v xs) (hx : Ext O H w H' w') (ho : ∀ g, v.ownBlock = some g → ¬ O g) (hp : ∀ x cs, P x cs → P' x cs) : Own H' w' base e sz P' v xs := by
  obtain ⟨C, hr, hf, hq⟩ := h
  refine ⟨C, ⟨hr.1, ?_⟩, fun g hg => (hx.old g (hr.lt g hg).2).trans (hf g hg), fun i x hi => hp x _ (hq i x hi)⟩
  rcases hr.2 with h0 | ⟨g, cap, cur, rfl, hb, hh, r⟩
  · exact .inl h0
  · exact .inr ⟨g, cap, cur, rfl, hb, (hx.block g (Array.getElem?_eq_some_iff.1 hh).1 (ho g (by simp [Value.ownBlock]))).trans hh, r⟩
theorem Own.pure (h : Own H w base e sz P v xs) (hx : Pure H w H' w') (hp : ∀ x cs, P x cs → P' x cs) : Own H' w' base e sz P' v xs := h.ext hx (fun _ _ => id) hp
theorem Own.below (h : Own H w base e sz P v xs) (hb : Below w.heap.size w w') : Own H w' base e sz P v xs := by
  obtain ⟨C, hr, hf, hq⟩ := h
  refine ⟨C, ⟨hr.1, ?_⟩, hf, hq⟩
  rcases hr.2 with h0 | ⟨g, cap, cur, rfl, hb', hh, r⟩
  · exact .inl h0
  · exact .inr ⟨g, cap, cur, rfl, hb', (hb.block g (Array.getElem?_eq_some_iff.1 hh).1).trans hh, r⟩
theorem Own.drewN (h : Own H w base e sz P v xs) (n : Nat) : Own H (w.drewN n) base e sz P v xs := h.below (below_drewN (Below.refl _ _) n)
theorem Own.alloc (h : Own H w base e sz P v xs) (o : Obj) : Own H (w.alloc o) base e sz P v xs := h.below (below_alloc w o)
/-- Another row has been written. -/
theorem Own.grown (h : Own H w base e sz P v xs) {row : Option Nat} (hg : w.grownBy w' row) (hne : ∀ g, v.ownBlock = some g → row ≠ some g) : Own H w' base e sz P v xs := by
  obtain ⟨C, hr, hf, hq⟩ := h
  refine ⟨C, ⟨hr.1, ?_⟩, hf, hq⟩
  rcases hr.2 with h0 | ⟨g, cap, cur, rfl, hb', hh, r⟩
  · exact .inl h0
  · exact .inr ⟨g, cap, cur, rfl, hb', (hg.block g (Array.getElem?_eq_some_iff.1 hh).1 (fun e => hne g (by simp [Value.ownBlock]) e.symm)).trans hh, r⟩
/-- The row joins what never changes: it is a slice as any. -/
theorem Own.freeze (h : Own H w base e sz P v xs) (hH : Agree H w) (hP : ∀ x cs, P x cs → cs.length = sz) :
    ∃ H', Sub H H' ∧ Agree H' w ∧ (∀ k, k < base → H' k = H k) ∧ (∀ k, v.ownBlock ≠ some k → H' k = H k) ∧ Sl H' sz P v xs := by
  obtain ⟨C, hr, hf, hq⟩ := h
  rcases hr.2 with ⟨rfl, h0⟩ | ⟨g, cap, cur, rfl, hb, hh, hnc, hcm, hsz, htake⟩
  · have hx : xs = [] := List.eq_nil_of_length_eq_zero h0
    subst hx
    exact ⟨H, Sub.refl H, hH, fun _ _ => rfl, fun _ _ => rfl, Sl.nil H sz P⟩
  · have hg := hf g (by simp [Value.ownBlock])
    refine ⟨H.put g (.cells cur e (0, 0)), GH.sub_put hg _, hH.put hh, fun k hk => GH.put_other _ _ (by omega), fun k hk => GH.put_other _ _ (fun e => hk (by simp [Value.ownBlock, e])), some ⟨g, 0, none⟩, cap, fun i => (C.drop (i * sz)).take sz, rfl, hnc, hcm, fun hn => ⟨g, 0, rfl, fun i hi => ?_⟩, hq⟩
    have hx : xs[i]? = some xs[i] := List.getElem?_eq_getElem hi
    refine ⟨hP _ _ (hq i _ hx), fun j u hu => ?_⟩
    have hj : j < sz := by
      have := (List.getElem?_eq_some_iff.1 hu).1
      rw [hP _ _ (hq i _ hx)] at this
      exact this
    rw [List.getElem?_take, if_pos hj, List.getElem?_drop] at hu
    rw [← htake, List.getElem?_take] at hu
    split at hu
    · simpa [GH.cell?, GH.put_same] using hu
    · cases hu
theorem Own.freeze_ext {W : World} {H0 : GH} (h : Own H w base e sz P v xs) (hx : Ext O H0 W H w) (hb : W.heap.size ≤ base) (hP : ∀ x cs, P x cs → cs.length = sz) :
    ∃ H', Ext O H0 W H' w ∧ Sub H H' ∧ (∀ k, k < base → H' k = H k) ∧ Sl H' sz P v xs := by
  obtain ⟨H', h1, h2, h3, h4, h5⟩ := h.freeze hx.agree hP
  exact ⟨H', ⟨hx.sub.trans h1, h2, hx.os, hx.tape, hx.output, hx.size, hx.block, fun k hk => (h3 k (by omega)).trans (hx.old k hk)⟩, h1, h3, h5⟩
theorem Own.form (h : Own H w base e sz P v xs) : ∃ a cap, v = .slice a xs.length cap ∧ xs.length ≤ cap ∧ cap ≤ maxLen := by
  obtain ⟨C, hr, hf, hq⟩ := h
  rcases hr.2 with ⟨rfl, h0⟩ | ⟨g, cap, cur, rfl, hb, hh, hnc, hcm, hsz, htake⟩
  · exact ⟨none, 0, by rw [h0], by omega, by simp [maxLen]⟩
  · exact ⟨_, cap, rfl, hnc, hcm⟩
end

/-! ### append onto a row of the call's own -/
/-- t is the type of slices of e, whose elements have sz cells and so many bytes. -/
def IsSl (P : Program) (t e : TypeId) (sz bytes : Nat) : Prop :=
  ∃ i z, P.underlying t = some (.slice e) ∧ P.info? e = some i ∧ i.zero = some z ∧ i.size = sz ∧ i.bytes = bytes ∧ z.cells.size = sz ∧ 0 < sz
theorem isSl_of {P : Program} {t e : TypeId} {z : Value} {sz bytes : Nat} (h1 : P.underlying t = some (.slice e)) (h2 : (P.info? e).map (fun i => (i.zero, i.size, i.bytes)) = some (some z, sz, bytes)) (h3 : z.cells.size = sz) (h4 : 0 < sz) : IsSl P t e sz bytes := by
  obtain ⟨i, hi, hz, hs, hb⟩ := info_parts h2
  exact ⟨i, z, h1, hi, hz, hs, hb, h3, h4⟩
section
variable {α : Type} {PR : Program} {H : GH} {w : World} {base : Nat} {t e : TypeId} {sz bytes : Nat} {P : α → List Value → Prop} {v : Value} {xs ys : List α}
theorem flat_elem {C N : List Value} {sz : Nat} {k : Nat} (hC : C.length = k * sz) (i : Nat) (hi : i < k) : ((C ++ N).drop (i * sz)).take sz = (C.drop (i * sz)).take sz := by
  have h1 : i * sz + sz ≤ C.length := by rw [hC, ← Nat.succ_mul]; exact Nat.mul_le_mul_right _ hi
  rw [List.drop_append_of_le_length (by omega), List.take_append_of_le_length (by rw [List.length_drop]; omega)]
theorem flat_new {C N : List Value} {sz : Nat} {k : Nat} (hC : C.length = k * sz) (i : Nat) : ((C ++ N).drop ((k + i) * sz)).take sz = (N.drop (i * sz)).take sz := by
  rw [Nat.add_mul, ← hC, ← List.drop_drop, List.drop_left]
/-- The cells of elements, one behind the other. -/
def flat (C : Nat → List Value) : Nat → List Value | 0 => [] | n + 1 => flat C n ++ C n
theorem flat_length {C : Nat → List Value} {sz : Nat} : ∀ n, (∀ i, i < n → (C i).length = sz) → (flat C n).length = n * sz
  | 0, _ => by simp [flat]
  | n + 1, h => by rw [flat, List.length_append, flat_length n (fun i hi => h i (by omega)), h n (by omega), Nat.succ_mul]
theorem flat_at {C : Nat → List Value} {sz : Nat} : ∀ n, (∀ i, i < n → (C i).length = sz) → ∀ i, i < n → ((flat C n).drop (i * sz)).take sz = C i
  | 0, _, i, hi => by omega
  | n + 1, h, i, hi => by
    have hl := flat_length n (fun i hi => h i (by omega))
    rw [flat]
    by_cases e : i = n
    · subst e
      have := flat_new (N := C i) hl 0
      simp only [Nat.add_zero, Nat.zero_mul, List.drop_zero] at this
      rw [this, ← h i (by omega), List.take_length]
    · rw [flat_elem hl i (by omega)]
      exact flat_at n (fun i hi => h i (by omega)) i (by omega)
theorem flat_get {C : Nat → List Value} {sz : Nat} (hs : 0 < sz) (n : Nat) (h : ∀ i, i < n → (C i).length = sz) (m : Nat) (u : Value) (hu : (flat C n)[m]? = some u) : (C (m / sz))[m % sz]? = some u ∧ m / sz < n := by
  have hl := flat_length n h
  have hm : m < n * sz := by have := (List.getElem?_eq_some_iff.1 hu).1; omega
  have hd : m / sz < n := (Nat.div_lt_iff_lt_mul hs).2 hm
  have hr : m % sz < sz := Nat.mod_lt _ hs
  have ha := flat_at n h (m / sz) hd
  refine ⟨?_, hd⟩
  rw [← ha, List.getElem?_take, if_pos hr, List.getElem?_drop]
  have : m / sz * sz + m % sz = m := by rw [Nat.mul_comm]; exact Nat.div_add_mod m sz
  rw [this]; exact hu

/-- append(v, ys...), ys a slice that never changes. -/
theorem Own.append_run (hT : IsSl PR t e sz bytes) (ty : TypeId) (own : Own H w base e sz P v xs) (hA : Agree H w) (hb : base ≤ w.heap.size) {sv : Value} (hsl : Sl H sz P sv ys) (hone : ∀ x cs, P x cs → ∀ u ∈ cs, u.oneCell' = true)
    (h63 : xs.length + ys.length ≤ maxLen) (hby : (xs.length + ys.length) * bytes ≤ 140737488355328) :
    ∃ v' w', (Builtin.append_ #[t, t] ty #[v, sv]).run PR w = .ok v' w' ∧ Own H w' base e sz P v' (xs ++ ys) ∧ w.grownBy w' v.ownBlock ∧ (v'.ownBlock = v.ownBlock ∨ v'.ownBlock = some w.heap.size) := by
  obtain ⟨i, z, h1, h2, h3, h4, h5, h6, h7⟩ := hT
  obtain ⟨C, ho, hf, hx⟩ := own
  obtain ⟨a, cap, D, rfl, hl, hc, hr, hy⟩ := hsl
  cases hys : ys.length with
  | zero =>
    have hys' : ys = [] := List.eq_nil_of_length_eq_zero hys
    subst hys'
    refine ⟨v, w, ?_, ⟨C, by simpa using ho, hf, by simpa using hx⟩, World.grownBy.refl w _, .inl rfl⟩
    cases a with
    | none =>
      rcases ho.2 with ⟨rfl, hn⟩ | ⟨g, cp, cur, rfl, _, _, hnc, _⟩
      · simp [Builtin.append_, run_underlying h1, sizeOf, typeInfo, h2, Builtin.lenOf, Builtin.firstCells]
      · simp [Builtin.append_, run_underlying h1, sizeOf, typeInfo, h2, Builtin.lenOf, Builtin.firstCells, hnc, storeCells]
    | some ad =>
      rcases ho.2 with ⟨rfl, hn⟩ | ⟨g, cp, cur, rfl, _, _, hnc, _⟩
      · simp [Builtin.append_, run_underlying h1, sizeOf, typeInfo, h2, Builtin.lenOf, Builtin.firstCells, loadCells, loadCellsFrom]
      · simp [Builtin.append_, run_underlying h1, sizeOf, typeInfo, h2, Builtin.lenOf, Builtin.firstCells, loadCells, loadCellsFrom, hnc, storeCells]
  | succ m =>
    obtain ⟨b, o, rfl, hcell⟩ := hr (by omega)
    have hD : ∀ i, i < ys.length → (D i).length = sz := fun i hi => (hcell i hi).1
    have hfl := flat_length ys.length hD
    have hnews : ∀ j u, (flat D ys.length)[j]? = some u → w.cell? ((⟨b, o, none⟩ : Addr).add j) = some u := fun j u hu => by
      obtain ⟨g1, g2⟩ := flat_get h7 ys.length hD j u hu
      have := hA.cell ((hcell _ g2).2 _ u g1)
      rw [Addr.add_lit]
      have hd : j / sz * sz + j % sz = j := by rw [Nat.mul_comm]; exact Nat.div_add_mod j sz
      rw [hd] at this
      exact this
    have h1c : ∀ u ∈ flat D ys.length, u.oneCell' = true := fun u hu => by
      obtain ⟨j, hj⟩ := List.getElem?_of_mem hu
      obtain ⟨g1, g2⟩ := flat_get h7 ys.length hD j u hj
      exact hone _ _ (hy _ _ (List.getElem?_eq_getElem g2)) u (List.mem_of_getElem? g1)
    obtain ⟨v', w', hrun, h8, h9, _, h10⟩ := run_append_own_at (P := PR) w base t ty e i z sz bytes h1 h2 h3 h4 h5 h6 h7 v xs.length C ho ⟨b, o, none⟩ ys.length cap _ hfl hnews h1c h63 hby hb
    rw [← hys]
    refine ⟨v', w', hrun, ⟨_, by rw [List.length_append]; exact h8, fun g hg => ?_, fun i x hi => ?_⟩, h9, h10⟩
    · rcases h10 with h10 | h10
      · rw [h10] at hg; exact hf g hg
      · rw [h10] at hg; injection hg with hg; subst hg; exact hA.free (Nat.le_refl _)
    · by_cases hlt : i < xs.length
      · rw [flat_elem ho.1 i hlt]
        rw [List.getElem?_append_left hlt] at hi
        exact hx i x hi
      · obtain ⟨k, rfl⟩ : ∃ k, i = xs.length + k := ⟨i - xs.length, by omega⟩
        rw [List.getElem?_append_right (by omega), Nat.add_sub_cancel_left] at hi
        have hk : k < ys.length := (List.getElem?_eq_some_iff.1 hi).1
        rw [flat_new ho.1, flat_at ys.length hD k hk]
        exact hy k x hi
theorem wpList_own {ops : Array Oper} {rest : List Oper} {o : Oper} {a : Act} {Q : Exit → Act → World → Prop} (hgd : o.guard = none) (s x : Operand)
    (ho : o.op = .call { callee := .builtin .append, args := #[s, x], argTypes := #[t, t] }) (hT : IsSl PR t e sz bytes) (v sv : Value) (hs : a.eval s = v) (hx : a.eval x = sv)
    (own : Own H w base e sz P v xs) (hA : Agree H w) (hb : base ≤ w.heap.size) (hsl : Sl H sz P sv ys) (hone : ∀ x cs, P x cs → ∀ u ∈ cs, u.oneCell' = true)
    (h63 : xs.length + ys.length ≤ maxLen) (hby : (xs.length + ys.length) * bytes ≤ 140737488355328)
    (h : ∀ v' w', Own H w' base e sz P v' (xs ++ ys) → w.grownBy w' v.ownBlock → (v'.ownBlock = v.ownBlock ∨ v'.ownBlock = some w.heap.size) → wpList PR ops Q rest (a.put o.dst v') w') : wpList PR ops Q (o :: rest) a w := by
  obtain ⟨v', w', hrun, g1, g2, g3⟩ := own.append_run hT o.type hA hb hsl hone h63 hby
  exact Lib.wpList_append_run w hgd s x t t ho v sv hs hx v' w' hrun (h v' w' g1 g2 g3)
/-- append(v, y): y's cells lie in a box. -/
theorem wpList_own1 {ops : Array Oper} {rest : List Oper} {o : Oper} {a : Act} {Q : Exit → Act → World → Prop} (hgd : o.guard = none) (s x : Operand)
    (ho : o.op = .call { callee := .builtin .append, args := #[s, x], argTypes := #[t, t] }) (hT : IsSl PR t e sz bytes) (v : Value) (hs : a.eval s = v) (g c : Nat) (hx : a.eval x = .slice (some ⟨g, 0, none⟩) 1 c)
    (own : Own H w base e sz P v xs) (hA : Agree H w) (hb : base ≤ w.heap.size) (cells : Array Value) (hbox : w.heap[g]? = some (.cells cells e (0, 0))) (y : α) (hP : P y cells.toList) (hcs : cells.size = sz) (hone : ∀ u ∈ cells.toList, u.oneCell' = true)
    (h63 : xs.length + 1 ≤ maxLen) (hby : (xs.length + 1) * bytes ≤ 140737488355328)
    (h : ∀ v' w', Own H w' base e sz P v' (xs ++ [y]) → w.grownBy w' v.ownBlock → (v'.ownBlock = v.ownBlock ∨ v'.ownBlock = some w.heap.size) → wpList PR ops Q rest (a.put o.dst v') w') : wpList PR ops Q (o :: rest) a w := by
  obtain ⟨i, z, h1, h2, h3, h4, h5, h6, h7⟩ := hT
  obtain ⟨C, hown, hf, hq⟩ := own
  have hnews : ∀ j u, cells.toList[j]? = some u → w.cell? ((⟨g, 0, none⟩ : Addr).add j) = some u := fun j u hu => by
    rw [Addr.add_lit, Nat.zero_add, cell_of_row w g j cells e (0, 0) hbox]
    simpa using hu
  obtain ⟨v', w', hrun, h8, h9, _, h10⟩ := run_append_own_at (P := PR) w base t o.type e i z sz bytes h1 h2 h3 h4 h5 h6 h7 v xs.length C hown ⟨g, 0, none⟩ 1 c cells.toList (by simpa using hcs) hnews hone h63 hby hb
  refine Lib.wpList_append_run w hgd s x t t ho v _ hs hx v' w' hrun (h v' w' ⟨_, by rw [List.length_append]; exact h8, fun g' hg => ?_, fun i x hi => ?_⟩ h9 h10)
  · rcases h10 with h10 | h10
    · rw [h10] at hg; exact hf g' hg
    · rw [h10] at hg; injection hg with hg; subst hg; exact hA.free (Nat.le_refl _)
  · by_cases hlt : i < xs.length
    · rw [flat_elem hown.1 i hlt]
      rw [List.getElem?_append_left hlt] at hi
      exact hq i x hi
    · have hix : i = xs.length + 0 := by
        have := (List.getElem?_eq_some_iff.1 hi).1
        simp at this
        omega
      subst hix
      rw [List.getElem?_append_right (by omega), Nat.add_sub_cancel_left] at hi
      simp at hi
      subst hi
      rw [flat_new hown.1]
      have : cells.toList.length = sz := by simpa using hcs
      simp only [Nat.zero_mul, List.drop_zero]
      rw [← this, List.take_length]
      exact hP
/-- The one element that is appended lies in a box of its own. -/
theorem sl_box {x : α} {cs : List Value} (hA : Agree H w) (hcs : cs.length = sz) (hP : P x cs) (g : Nat) (cells : Array Value) (hh : w.heap[g]? = some (.cells cells e (0, 0))) (hc : cells.toList = cs) (hn : H g = none) (c : Nat) (hc1 : 1 ≤ c) (hc2 : c ≤ maxLen) :
    Sub H (H.put g (.cells cells e (0, 0))) ∧ Agree (H.put g (.cells cells e (0, 0))) w ∧ Sl (H.put g (.cells cells e (0, 0))) sz P (.slice (some ⟨g, 0, none⟩) 1 c) [x] := by
  refine ⟨GH.sub_put hn _, hA.put hh, some ⟨g, 0, none⟩, c, fun _ => cs, rfl, hc1, hc2, fun _ => ⟨g, 0, rfl, fun i hi => ⟨hcs, fun j u hu => ?_⟩⟩, fun i y hi => ?_⟩
  · have : i = 0 := by simpa using hi
    subst this
    subst hc
    simpa [GH.cell?, GH.put_same] using hu
  · cases i with
    | zero => simp at hi; subst hi; exact hP
    | succ i => simp at hi
end
end Go.Proofs.Ytbdappbmlnpogaa
