/- Package invert: the small functions. Package invert: the function values. Package invert on plain data. Package invert: the inversion in memory; fail. Package invert: hang. Package invert: Prune. Package invert: Prune, walked. -/
import Derived.Test.YtbdappbmlnpogaaHeadFull
namespace Go.Proofs.Ytbdappbmlnpogaa
open Go Go.RowKit
set_option maxRecDepth 100000
def leafT (k n : Int) : Tm := .mk k ByteArray.empty n []
def LeafTPost (H : GH) (w : World) (k n : Int) (e : Ending) (w' : World) : Prop := ∃ cs', e = .returned (.agg cs'.toArray) ∧ Below w.heap.size w w' ∧ Rep H (leafT k n) cs'
theorem rep_leafT (H : GH) (k n : Int) (hk : I64 k) (hn : I64 n) : Rep H (leafT k n) [.int .i64 k, .string ⟨#[]⟩, .int .i64 n, .slice none 0 0] :=
  Rep.shut hk hn (by simp [maxLen]) (Sl.nil _ _ _)
theorem invert_bound (H : GH) (w : World) (n : Int) (hn : I64 n) : Calls Try.prog 31 #[.int .i64 n] w (LeafTPost H w 3 n) := by
  go_enter Try.func31, Try.ntmps31
  go_wp2_with fail
  exact bodyPost_ret (v := .agg #[.int .i64 3, .string ⟨#[]⟩, .int .i64 n, .slice none 0 0]) (by simp [results, Try.results31, go_sem]) rfl ⟨_, rfl, below_alloc _ _, rep_leafT H 3 n (by unfold I64; omega) hn⟩
theorem invert_variable (H : GH) (w : World) (n : Int) (hn : I64 n) : Calls Try.prog 58 #[.int .i64 n] w (LeafTPost H w 4 n) := by
  go_enter Try.func58, Try.ntmps58
  go_wp2_with fail
  exact bodyPost_ret (v := .agg #[.int .i64 4, .string ⟨#[]⟩, .int .i64 n, .slice none 0 0]) (by simp [results, Try.results58, go_sem]) rfl ⟨_, rfl, below_alloc _ _, rep_leafT H 4 n (by unfold I64; omega) hn⟩
theorem invert_odd (t : Tm) (cs : List Value) (H : GH) (w : World) (hR : Rep H t cs) (hA : Agree H w) :
    Calls Try.prog 40 #[.agg cs.toArray] w fun e w' => e = .returned (.bool (!t.valid)) ∧ Below w.heap.size w w' := by
  have h1 := Lib.hid (fun W hW => term_Valid t cs H W hR hW)
  obtain ⟨a, cap, rfl, -, -, -, hl⟩ := hR.open_
  go_enter Try.func40, Try.ntmps40
  go_wp2_with fail
  refine (h1.out _ (hA.alloc _)).mono ?_
  rintro e w1 ⟨rfl, hb1⟩
  go_wp2_with fail
  go_ret
  exact ⟨rfl, (below_alloc _ _).trans (hb1.mono (below_alloc _ _).size)⟩
/-- invert.same: kind and number alike. -/
def Tm.alike (a b : Tm) : Bool := (a.k == b.k) && (a.n == b.n)
theorem invert_same (t u : Tm) (cs us : List Value) (H : GH) (w : World) (hR : Rep H t cs) (hU : Rep H u us) :
    Calls Try.prog 46 #[.agg cs.toArray, .agg us.toArray] w fun e w' => e = .returned (.bool (t.alike u)) ∧ Below w.heap.size w w' := by
  obtain ⟨a, cap, rfl, -, -, -, -⟩ := hR.open_
  obtain ⟨b, bap, rfl, -, -, -, -⟩ := hU.open_
  cases hk : (t.k == u.k) with
  | false =>
    have hk' := Lib.hid hk
    go_enter Try.func46, Try.ntmps46
    go_wp2_with fail
    go_ret
    exact ⟨by unfold Tm.alike; rw [hk'.out]; rfl, (below_alloc _ _).trans ((below_alloc _ _).mono (below_alloc _ _).size)⟩
  | true =>
    have hk' := Lib.hid hk
    go_enter Try.func46, Try.ntmps46
    go_wp2_with fail
    go_ret
    exact ⟨by unfold Tm.alike; rw [hk'.out]; rfl, (below_alloc _ _).trans ((below_alloc _ _).mono (below_alloc _ _).size)⟩
/-- invert.leaf. -/
def Tm.isLeaf (t : Tm) : Bool := t.valid && ((t.k == 3) || (t.k == 1))
set_option maxHeartbeats 2000000 in
theorem invert_leaf (t : Tm) (cs : List Value) (H : GH) (w : World) (hR : Rep H t cs) (hA : Agree H w) :
    Calls Try.prog 42 #[.agg cs.toArray] w fun e w' => e = .returned (.bool t.isLeaf) ∧ Below w.heap.size w w' := by
  have h1 := Lib.hid (fun W hW => term_Valid t cs H W hR hW)
  obtain ⟨a, cap, rfl, -, -, -, hl⟩ := hR.open_
  have B0 := Lib.hid (heap_alloc_new w (tbox t a cap))
  have fin : ∀ b, b = t.isLeaf → ∀ w1, Below (w.alloc (tbox t a cap)).heap.size (w.alloc (tbox t a cap)) w1 → (Ending.returned (.bool b) = .returned (.bool t.isLeaf) ∧ Below w.heap.size w w1) := fun b hb w1 h => ⟨by rw [hb], (below_alloc _ _).trans (h.mono (below_alloc _ _).size)⟩
  have FIN := Lib.hid fin
  clear fin hR hl
  cases hv : t.valid with
  | false =>
    have hv' := Lib.hid hv
    rw [hv] at h1
    go_enter Try.func42, Try.ntmps42
    go_wp2_with fail
    refine (h1.out _ (hA.alloc _)).mono ?_
    rintro e w1 ⟨rfl, hb1⟩
    go_wp2_with fail
    go_ret
    exact FIN.out _ (by unfold Tm.isLeaf; rw [hv'.out]; rfl) _ hb1
  | true =>
    have hv' := Lib.hid hv
    rw [hv] at h1
    cases h3 : (t.k == 3) with
    | true =>
      have h3' := Lib.hid h3
      go_enter Try.func42, Try.ntmps42
      go_wp2_with fail
      refine (h1.out _ (hA.alloc _)).mono ?_
      rintro e w1 ⟨rfl, hb1⟩
      obtain ⟨p0, p1, p2, p3, p4, p5, p6, p7, p8⟩ := box4 (Below.blk hb1 B0.out)
      go_wp2_with fail
      go_ret
      exact FIN.out _ (by unfold Tm.isLeaf; rw [hv'.out, h3'.out]; rfl) _ hb1
    | false =>
      have h3' := Lib.hid h3
      go_enter Try.func42, Try.ntmps42
      go_wp2_with fail
      refine (h1.out _ (hA.alloc _)).mono ?_
      rintro e w1 ⟨rfl, hb1⟩
      obtain ⟨p0, p1, p2, p3, p4, p5, p6, p7, p8⟩ := box4 (Below.blk hb1 B0.out)
      go_wp2_with fail
      go_ret
      exact FIN.out _ (by unfold Tm.isLeaf; rw [hv'.out, h3'.out]; rfl) _ hb1
theorem invert_Invert1 (t : Tm) (cs : List Value) (H : GH) (w : World) (hR : Rep H t cs) (hA : Agree H w) :
    Calls Try.prog 41 #[.agg cs.toArray] w fun e w' => e = .returned (.bool (!t.isLeaf)) ∧ Below w.heap.size w w' := by
  have h1 := Lib.hid (fun W hW => invert_leaf t cs H W hR hW)
  obtain ⟨a, cap, rfl, -, -, -, hl⟩ := hR.open_
  go_enter Try.func41, Try.ntmps41
  go_wp2_with fail
  refine (h1.out _ (hA.alloc _)).mono ?_
  rintro e w1 ⟨rfl, hb1⟩
  go_wp2_with fail
  go_ret
  exact ⟨rfl, (below_alloc _ _).trans (hb1.mono (below_alloc _ _).size)⟩
end Go.Proofs.Ytbdappbmlnpogaa
namespace Go.Proofs.Ytbdappbmlnpogaa
open Go Go.RowKit
set_option maxRecDepth 100000
theorem invert_Args1 (u : Tm) (ua : Option Addr) (uc ub : Nat) (t : Tm) (cs : List Value) (H : GH) (w : World) (hR : Rep H t cs) (hU : Rep H u (tcells u ua uc).toList) (hb : w.heap[ub]? = some (tbox u ua uc)) :
    Calls Try.prog 45 #[.agg cs.toArray, .pointer (some ⟨ub, 0, none⟩)] w fun e w' => e = .returned (.bool (t.alike u)) ∧ Below w.heap.size w w' := by
  have h1 := Lib.hid (fun W => invert_same t u cs _ H W hR hU)
  obtain ⟨a, cap, rfl, -, -, -, hl⟩ := hR.open_
  obtain ⟨p0, p1, p2, p3, p4, p5, p6, p7, p8⟩ := box4 hb
  go_enter Try.func45, Try.ntmps45
  go_wp2_with fail
  refine (h1.out _).mono ?_
  rintro e w1 ⟨rfl, hb1⟩
  go_wp2_with fail
  go_ret
  exact ⟨rfl, (below_alloc _ _).trans (hb1.mono (below_alloc _ _).size)⟩
theorem invert_image1 (u : Tm) (ua : Option Addr) (uc ub : Nat) (t : Tm) (cs : List Value) (H : GH) (w : World) (hR : Rep H t cs) (hU : Rep H u (tcells u ua uc).toList) (hb : w.heap[ub]? = some (tbox u ua uc)) :
    Calls Try.prog 81 #[.agg cs.toArray, .pointer (some ⟨ub, 0, none⟩)] w fun e w' => e = .returned (.bool (t.alike u)) ∧ Below w.heap.size w w' := by
  have h1 := Lib.hid (fun W => invert_same t u cs _ H W hR hU)
  obtain ⟨a, cap, rfl, -, -, -, hl⟩ := hR.open_
  obtain ⟨p0, p1, p2, p3, p4, p5, p6, p7, p8⟩ := box4 hb
  go_enter Try.func81, Try.ntmps81
  go_wp2_with fail
  refine (h1.out _).mono ?_
  rintro e w1 ⟨rfl, hb1⟩
  go_wp2_with fail
  go_ret
  exact ⟨rfl, (below_alloc _ _).trans (hb1.mono (below_alloc _ _).size)⟩
end Go.Proofs.Ytbdappbmlnpogaa
namespace Go.Proofs.Ytbdappbmlnpogaa
namespace St
/-- Args, from where so many leaves are told: the leaves, the fuel that is left, the error. -/
def argsL (S : St) (lv : Int) : List Tm → List Tm → Int → List Tm × Int × Int
  | out, [], f => (out, f, 0)
  | out, t :: ts, f =>
    if (S.Full t f).2.2 ≠ 0 then ([], 0, (S.Full t f).2.2)
    else if (S.Full t f).1.leafV.2 = false ∨ ((S.Full t f).1.leafV.1.k = 1 ∧ (S.Full t f).1.leafV.1.n ≤ lv) ∨ out.any (fun v => v.alike (S.Full t f).1.leafV.1) = true then ([], 0, 171)
    else argsL S lv (out ++ [(S.Full t f).1.leafV.1]) ts (S.Full t f).2.1
def args (S : St) (x : Int) (l : List Tm) (f : Int) : List Tm × Int × Int :=
  if (S.info x).2 = false ∨ l.any (fun t => !t.valid) = true then ([], 0, 1) else argsL S (S.info x).1.lv [] l f
/-- hang: the new variable's term is the same in all stores of so many variables. -/
def hang (S : St) (x level lams : Int) (on : List Tm) : Tm × St :=
  (leafT 4 S.V.length, ((S.fresh level).bind x (Tm.lams lams (Tm.apply (leafT 4 S.V.length) on))).1)
def pruneOn (n : Int) : List Bool → Int → List Tm
  | [], _ => []
  | b :: bs, k => if b then leafT 3 (n - 1 - k) :: pruneOn n bs (k + 1) else pruneOn n bs (k + 1)
def prune (S : St) (x : Int) (keep : List Bool) : St × Int :=
  if (S.info x).2 = false ∨ (S.info x).1.bd = true then (S, 1)
  else ((S.hang x (S.info x).1.lv keep.length (pruneOn keep.length keep 0)).2, 0)
end St
/-- An inversion that is under way: the store, the fuel, the error. -/
structure Iv where
  S : St
  f : Int
  e : Int
/-- What an inversion is for: the variable, its level, the leaves. -/
structure Ic where
  x : Int
  lv : Int
  L : List Tm
namespace Iv
def fail (v : Iv) (e : Int) : Tm × Iv := (Tm.zero, if v.e = 0 then { v with e := e } else v)
end Iv
namespace Ic
/-- A leaf's image below so many abstractions. -/
def image (c : Ic) (t : Tm) (k : Int) : Tm × Bool :=
  if t.k = 3 ∧ t.n < k then (t, true)
  else
    let out := if t.k = 3 then Tm.mk t.k t.s (t.n - k) t.l else t
    let p := idx (fun u => u.alike out) c.L 0
    if 0 ≤ p then (leafT 3 (k + c.L.length - 1 - p), true) else (t, (t.k == 1) && decide (t.n ≤ c.lv))
/-- Which leaves have images: what the variable hangs on, and the images. -/
def flexA (c : Ic) (k n : Int) : List Tm → Int → List Tm × List Tm
  | [], _ => ([], [])
  | t :: ts, i => if (c.image t k).2 then (leafT 3 (n - 1 - i) :: (flexA c k n ts (i + 1)).1, (c.image t k).1 :: (flexA c k n ts (i + 1)).2) else flexA c k n ts (i + 1)
def flexB (c : Ic) (k lv : Int) : List Tm → Int → List Tm × List Tm
  | [], _ => ([], [])
  | t :: ts, i => if c.lv < lv ∧ t.k = 1 ∧ t.n ≤ lv then (t :: (flexB c k lv ts (i + 1)).1, leafT 3 (k + c.L.length - 1 - i) :: (flexB c k lv ts (i + 1)).2) else flexB c k lv ts (i + 1)
def flex (c : Ic) (v : Iv) (y : Int) (l : List Tm) (k : Int) : Tm × Iv :=
  let a := v.S.args y l v.f
  if a.2.2 ≠ 0 then v.fail a.2.2
  else
    let v := { v with f := a.2.1 }
    let lv := (v.S.info y).1.lv
    let A := flexA c k a.1.length a.1 0
    if A.1.length = a.1.length ∧ lv ≤ c.lv then (Tm.apply (leafT 4 y) A.2, v)
    else
      let B := flexB c k lv c.L 0
      let h := v.S.hang y (if c.lv < lv then c.lv else lv) a.1.length (A.1 ++ B.1)
      (Tm.apply h.1 (A.2 ++ B.2), { v with S := h.2 })
/-- Something for all terms of a list, one after the other. -/
def mapV (g : Iv → Tm → Tm × Iv) : Iv → List Tm → List Tm × Iv
  | v, [] => ([], v)
  | v, t :: ts => ((g v t).1 :: (mapV g (g v t).2 ts).1, (mapV g (g v t).2 ts).2)
def termF (c : Ic) : Nat → Iv → Tm → Int → Tm × Iv
  | 0, v, _, _ => if v.e ≠ 0 then (Tm.zero, v) else v.fail 80
  | m + 1, v, t, k =>
    if v.e ≠ 0 then (Tm.zero, v)
    else if v.f ≤ 0 then v.fail 80
    else
      let r := v.S.Head t (v.f - 1)
      if r.2.2 ≠ 0 then v.fail r.2.2
      else
        let v := { v with f := r.2.1 }
        let s := r.1.split
        if s.1.k = 5 then
          let q := termF c m v (s.1.l.getD 0 Tm.zero) (k + 1)
          (Tm.lams 1 q.1, q.2)
        else if s.1.k = 4 then
          if s.1.n = c.x then
            let a := v.S.args s.1.n s.2 v.f
            if a.2.2 ≠ 0 then v.fail a.2.2 else v.fail 170
          else c.flex v s.1.n s.2 k
        else
          let h := if s.1.k = 3 ∨ s.1.k = 1 then c.image s.1 k else (s.1, true)
          if h.2 = false then v.fail 170
          else
            let q := mapV (fun v t => termF c m v t k) v s.2
            (Tm.apply h.1 q.1, q.2)
end Ic
def St.invert (S : St) (x : Int) (l : List Tm) (t : Tm) (f : Int) : (Tm × Int × Int) × St :=
  if (S.info x).2 = false ∨ (S.info x).1.bd = true ∨ t.valid = false ∨ l.any (fun u => !u.isLeaf) = true then ((Tm.zero, 0, 1), S)
  else
    let q := Ic.termF ⟨x, (S.info x).1.lv, l⟩ f.toNat ⟨S, f, 0⟩ t 0
    if q.2.e ≠ 0 then ((Tm.zero, 0, q.2.e), q.2.S) else ((Tm.lams l.length q.1, q.2.f, 0), q.2.S)
end Go.Proofs.Ytbdappbmlnpogaa
namespace Go.Proofs.Ytbdappbmlnpogaa
open Go Go.RowKit
set_option maxRecDepth 100000
/-- The cells of an inversion. -/
abbrev ivcells (s : Nat) (c : Ic) (la : Option Addr) (lc : Nat) (f e : Int) : Array Value := #[.pointer (some ⟨s, 0, none⟩), .int .i64 c.x, .int .i64 c.lv, .slice la c.L.length lc, .int .i64 f, .int .i64 e]
abbrev ivbox (s : Nat) (c : Ic) (la : Option Addr) (lc : Nat) (f e : Int) : Obj := .cells (ivcells s c la lc f e) 79 (0, 0)
theorem blk6_set5 {w : World} {b : Nat} {v0 v1 v2 v3 v4 v5 u : Value} {T : TypeId} (h : w.heap[b]? = some (.cells #[v0, v1, v2, v3, v4, v5] T (0, 0))) : (w.setCell ⟨b, 5, none⟩ u).heap[b]? = some (.cells #[v0, v1, v2, v3, v4, u] T (0, 0)) := by
  simp [World.setCell, Array.getElem?_modify, h]
theorem blk6_set4 {w : World} {b : Nat} {v0 v1 v2 v3 v4 v5 u : Value} {T : TypeId} (h : w.heap[b]? = some (.cells #[v0, v1, v2, v3, v4, v5] T (0, 0))) : (w.setCell ⟨b, 4, none⟩ u).heap[b]? = some (.cells #[v0, v1, v2, v3, u, v5] T (0, 0)) := by
  simp [World.setCell, Array.getElem?_modify, h]
def FailPost (vb s : Nat) (c : Ic) (la : Option Addr) (lc : Nat) (H : GH) (w : World) (f e er : Int) (en : Ending) (w' : World) : Prop :=
  en = .returned (.agg #[.int .i64 0, .string ⟨#[]⟩, .int .i64 0, .slice none 0 0]) ∧ Ext (fun k => k = vb) H w H w' ∧ w'.heap[vb]? = some (ivbox s c la lc f (if e = 0 then er else e))
set_option maxHeartbeats 2000000 in
theorem invert_fail (vb s : Nat) (c : Ic) (la : Option Addr) (lc : Nat) (H : GH) (w : World) (f e er : Int) (hA : Agree H w) (hvb : w.heap[vb]? = some (ivbox s c la lc f e)) (hH : H vb = none) :
    Calls Try.prog 65 #[.pointer (some ⟨vb, 0, none⟩), .int .i64 er] w (FailPost vb s c la lc H w f e er) := by
  obtain ⟨p0, p1, p2, p3, p4, p5, p6⟩ := box6 hvb
  have f5 := (blk_cells hvb 5).2
  by_cases he : e = 0
  · subst he
    have T0 : Ext (fun k => k = vb) H w H (w.setCell ⟨vb, 5, none⟩ (.int .i64 er)) := (Ext.refl (O := fun k => k = vb) hA).setCell (p := ⟨vb, 5, none⟩) hH (fun _ => rfl) _
    have E0 := Lib.hid (T0.alloc zbox)
    have B0 := Lib.hid (Below.blk (below_alloc _ zbox) (blk6_set5 (u := .int .i64 er) hvb))
    go_enter Try.func65, Try.ntmps65
    go_wp2_with fail
    refine bodyPost_ret (v := .agg #[.int .i64 0, .string ⟨#[]⟩, .int .i64 0, .slice none 0 0]) (by simp [results, Try.results65, go_sem]) rfl ?_
    exact ⟨rfl, E0.out, by rw [if_pos rfl]; exact B0.out⟩
  · have he' : (e == 0) = false := beq_eq_false_iff_ne.2 he
    have E0 := Lib.hid ((Ext.refl (O := fun k => k = vb) hA).alloc zbox)
    have B0 := Lib.hid (Below.blk (below_alloc _ zbox) hvb)
    go_enter Try.func65, Try.ntmps65
    go_wp2_with fail
    refine bodyPost_ret (v := .agg #[.int .i64 0, .string ⟨#[]⟩, .int .i64 0, .slice none 0 0]) (by simp [results, Try.results65, go_sem]) rfl ?_
    exact ⟨rfl, E0.out, by rw [if_neg he]; exact B0.out⟩
end Go.Proofs.Ytbdappbmlnpogaa
namespace Go.Proofs.Ytbdappbmlnpogaa
open Go Go.RowKit
set_option maxRecDepth 100000
def HangPost (F : Nat → Prop) (H : GH) (w : World) (s : Nat) (S : St) (x level lams : Int) (on : List Tm) (e : Ending) (w' : World) : Prop :=
  ∃ H' cs', e = .returned (.agg cs'.toArray) ∧ Ext F H w H' w' ∧ Rep H' (S.hang x level lams on).1 cs' ∧ StAt H' w' (fun k => F k ∨ w.heap.size ≤ k) s (S.hang x level lams on).2
set_option maxHeartbeats 8000000 in
theorem invert_hang {F : Nat → Prop} (H : GH) (w : World) (s : Nat) (S : St) (x level lams : Int) (on : List Tm) (v : Value) (hA : Agree H w) (hS : StAt H w F s S) (hx : I64 x) (hl : I64 level) (hn : S.V.length ≤ 1073741824) (hnT : S.T.length ≤ 1073741824) (hlm : lams ≤ 1073741824) (ho : Tms H v on)
    (hsz : (Tm.lams lams (Tm.apply (leafT 4 S.V.length) on)).size ≤ SB) :
    Calls Try.prog 32 #[.pointer (some ⟨s, 0, none⟩), .int .i64 x, .int .i64 level, .int .i64 lams, v] w (HangPost F H w s S x level lams on) := by
  have E0 := Lib.hid ((Ext.refl (O := fun _ => False) hA).alloc zbox)
  have B0 := Lib.hid (heap_alloc_new w zbox)
  have hfr := Lib.hid (store_Fresh H _ s S level E0.out.agree (hS.tight.pure E0.out) hl hn)
  have hT := Lib.hid hS.tight
  have hn0 := hA.free (Nat.le_refl _)
  obtain ⟨va, vc, rfl, -, -⟩ := ho.form
  have hsF := hS.lt
  go_enter Try.func32, Try.ntmps32
  go_wp2_with fail
  refine hfr.out.mono ?_
  rintro e w1 ⟨rfl, X1, S1⟩
  have hz0 : w.heap.size < (w.alloc zbox).heap.size := by simp
  have B1 := Lib.hid ((X1.block w.heap.size hz0 (by omega)).trans B0.out)
  have hvar := Lib.hid (invert_variable H w1 S.V.length (by unfold I64; omega))
  clear hfr
  go_wp2_with fail
  refine hvar.out.mono ?_
  rintro e w2 ⟨hcs, rfl, hb2, R2⟩
  have A1 := X1.agree
  have E2 := Lib.hid (((E0.out.mono (O' := F) (fun _ h => h.elim)).trans X1 (fun k hk h => hk.1)).then_below hb2)
  have S2 := Lib.hid (S1.tight.below A1 hb2)
  have hz1 : w.heap.size < w1.heap.size := cell_lt B1.out
  have hz2 : w1.heap.size ≤ w2.heap.size := hb2.size
  have HZ := Lib.hid (show w.heap.size < w1.heap.size ∧ w1.heap.size ≤ w2.heap.size from ⟨hz1, hz2⟩)
  have B2 := Lib.hid (Below.blk hb2 B1.out)
  have k0 : H w.heap.size = none := hn0
  have hH : Hid (S.hang x level lams on = (leafT 4 S.V.length, ((S.fresh level).bind x (Tm.lams lams (Tm.apply (leafT 4 S.V.length) on))).1)) := Lib.hid rfl
  generalize hY : leafT 4 (S.V.length : Int) = Y at *
  have HY := Lib.hid hY
  have HR2 := Lib.hid R2
  have hd6 : Y.hd6 := by rw [← hY]; intro h; cases h
  have hlb : (Y.apply on).l.length ≤ LB := by
    have h4 : (Y.apply on).l.length < (Y.apply on).size := by cases Y.apply on with | mk k s n l => exact Tm.length_lt k s n l
    have h5 := lams_size lams.toNat (Y.apply on)
    unfold Tm.lams at hsz
    unfold SB at hsz
    unfold LB
    omega
  obtain ⟨ya, yc, rfl, -, -, -, -⟩ := R2.open_
  have E3 := Lib.hid (E2.out.alloc (tbox Y ya yc))
  have S3 := Lib.hid (S2.out.below E2.out.agree (below_alloc w2 (tbox Y ya yc)))
  have B3 := Lib.hid (heap_alloc_new w2 (tbox Y ya yc))
  have B3' := Lib.hid (Below.blk (below_alloc w2 (tbox Y ya yc)) B2.out)
  have hap := Lib.hid (term_Apply Y _ on _ H _ HR2.out ho E3.out.agree hd6 hlb)
  clear hvar X1 S1 hb2 R2 hY hlb hd6
  go_wp2_with fail
  refine hap.out.mono ?_
  rintro e w4 ⟨H4, acs, rfl, X4, R4⟩
  have hlam := Lib.hid (term_Lams lams (Y.apply on) acs H4 w4 (by unfold LB; omega) X4.agree R4)
  obtain ⟨aa, ac, rfl, -, -, -, -⟩ := R4.open_
  have E4 := Lib.hid (E3.out.then X4)
  have S4 := Lib.hid (S3.out.pure X4)
  have B4 := Lib.hid (Below.blk X4.below B3.out)
  have B4' := Lib.hid (Below.blk X4.below B3'.out)
  have hX4 := Lib.hid X4
  clear hap X4 R4
  go_wp2_with fail
  refine hlam.out.mono ?_
  rintro e w5 ⟨H5, lcs, rfl, X5, R5⟩
  have hbd := Lib.hid (store_Bind H5 w5 s (S.fresh level) x (Tm.lams lams (Y.apply on)) lcs X5.agree (S4.out.pure X5) R5 hx hsz hnT)
  obtain ⟨ba, bc, rfl, -, -, -, -⟩ := R5.open_
  have E5 := Lib.hid (E4.out.then X5)
  have B5 := Lib.hid (Below.blk X5.below B4.out)
  have B5' := Lib.hid (Below.blk X5.below B4'.out)
  have hs5 := Lib.hid (Sub.trans hX4.out.sub X5.sub)
  have k5 : H5 w.heap.size = none := (X5.old _ (cell_lt B4'.out)).trans ((hX4.out.old _ (cell_lt B3'.out)).trans k0)
  clear hlam X5 R5
  go_wp2_with fail
  refine hbd.out.mono ?_
  rintro e w6 ⟨rfl, X6, S6⟩
  have hz := HZ.out
  have B6 := Lib.hid ((X6.block _ (cell_lt B5.out) (by simp; omega)).trans B5.out)
  have B6' := Lib.hid ((X6.block _ (cell_lt B5'.out) (by simp; omega)).trans B5'.out)
  have E6 := Lib.hid (E5.out.trans X6 (fun k hk h => by simp at hk; rcases hk with ⟨h | h, h'⟩; exact h.1; omega))
  obtain ⟨p0, p1, p2, p3, p4, p5, p6, p7, p8⟩ := box4 B6.out
  obtain ⟨q0, q1, q2, q3, q4, q5, q6, q7, q8⟩ := box4 B6'.out
  have E7 := Lib.hid (E6.out.store4 k5 (Nat.le_refl _) (.int .i64 Y.k) (.string Y.s) (.int .i64 Y.n) (.slice ya Y.l.length yc))
  clear hbd X6
  go_wp2_with fail
  have T : Ext (fun k => k = w.heap.size) H5 w6 H5 ((((w6.setCell ⟨w.heap.size, 0, none⟩ (.int .i64 Y.k)).setCell ⟨w.heap.size, 1, none⟩ (.string Y.s)).setCell ⟨w.heap.size, 2, none⟩ (.int .i64 Y.n)).setCell ⟨w.heap.size, 3, none⟩ (.slice ya Y.l.length yc)) :=
    ((((Ext.refl (O := fun k => k = w.heap.size) E6.out.agree).setCell (p := ⟨w.heap.size, 0, none⟩) k5 (fun _ => rfl) _).setCell (p := ⟨w.heap.size, 1, none⟩) k5 (fun _ => rfl) _).setCell (p := ⟨w.heap.size, 2, none⟩) k5 (fun _ => rfl) _).setCell (p := ⟨w.heap.size, 3, none⟩) k5 (fun _ => rfl) _
  have hz5 : w.heap.size < w5.heap.size := cell_lt B5'.out
  have S7 := (S6.ext T (fun k hk hF => by subst hk; simp at hF; omega)).mono (F' := fun k => F k ∨ w.heap.size ≤ k) (fun k hk => by
    rcases hk with ⟨h | h, -⟩ | h
    · exact .inl h.1
    · exact .inr (by simp at h; omega)
    · exact .inr (by omega))
  refine bodyPost_ret (v := .agg #[.int .i64 Y.k, .string Y.s, .int .i64 Y.n, .slice ya Y.l.length yc]) (by simp [results, Try.results32, go_sem, q0, q1, q2, q3, q4]) rfl ?_
  unfold HangPost
  rw [hH.out]
  exact ⟨H5, _, rfl, E7.out, HR2.out.mono hs5.out, S7⟩
end Go.Proofs.Ytbdappbmlnpogaa
namespace Go.Proofs.Ytbdappbmlnpogaa
open Go Go.RowKit
set_option maxRecDepth 100000
def BoolP (b : Bool) (cs : List Value) : Prop := cs = [.bool b]
theorem pruneOn_append (n : Int) (a b : List Bool) : ∀ k, St.pruneOn n (a ++ b) k = St.pruneOn n a k ++ St.pruneOn n b (k + a.length) := by
  induction a with
  | nil => intro k; simp [St.pruneOn]
  | cons x xs ih =>
    intro k
    rw [List.cons_append, St.pruneOn, St.pruneOn]
    have e : k + ((x :: xs).length : Int) = k + 1 + xs.length := by simp; omega
    rw [e]
    split
    · rw [ih]; rfl
    · rw [ih]
theorem pruneOn_take (n : Int) (l : List Bool) (j : Nat) (b : Bool) (h : l[j]? = some b) : St.pruneOn n (l.take (j + 1)) 0 = St.pruneOn n (l.take j) 0 ++ (if b then [leafT 3 (n - 1 - j)] else []) := by
  have hj := (List.getElem?_eq_some_iff.1 h).1
  rw [List.take_add_one, h, pruneOn_append]
  have : ((l.take j).length : Int) = j := by rw [List.length_take]; omega
  rw [this]
  cases b <;> simp [St.pruneOn]
theorem pruneOn_len (n : Int) (l : List Bool) : ∀ k, (St.pruneOn n l k).length ≤ l.length := by
  induction l with
  | nil => intro k; simp [St.pruneOn]
  | cons x xs ih =>
    intro k
    have := ih (k + 1)
    rw [St.pruneOn]
    split <;> simp <;> omega
def PruneRel (H : GH) (w : World) (n : Int) (keep : List Bool) (v i : Value) (wr : World) : Prop :=
  ∃ (j : Nat), j ≤ keep.length ∧ i = .int .i64 j ∧ Pure H w H wr ∧ Own H wr w.heap.size 30 4 (Rep H) v (St.pruneOn n (keep.take j) 0)
def PrunePost (F : Nat → Prop) (H : GH) (w : World) (s : Nat) (S : St) (x : Int) (keep : List Bool) (e : Ending) (w' : World) : Prop :=
  ∃ H', e = .returned (.int .i64 (S.prune x keep).2) ∧ Ext F H w H' w' ∧ StAt H' w' (fun k => F k ∨ w.heap.size ≤ k) s (S.prune x keep).1
theorem prune_no {F : Nat → Prop} {H : GH} {w w' : World} {s : Nat} {S : St} {x : Int} {keep : List Bool} (hS : StAt H w F s S) (hx : Pure H w H w') (hb : (S.info x).2 = false ∨ (S.info x).1.bd = true) : PrunePost F H w s S x keep (.returned (.int .i64 1)) w' := by
  have : S.prune x keep = (S, 1) := by unfold St.prune; rw [if_pos hb]
  unfold PrunePost
  rw [this]
  exact ⟨H, rfl, hx.mono (fun _ h => h.elim), (hS.pure hx).mono (fun _ h => .inl h)⟩
theorem sizeL_pruneOn (n : Int) (l : List Bool) : ∀ k, Tm.sizeL (St.pruneOn n l k) ≤ l.length := by
  induction l with
  | nil => intro k; simp [St.pruneOn]
  | cons x xs ih =>
    intro k
    have := ih (k + 1)
    rw [St.pruneOn]
    split
    · rw [Tm.sizeL_cons]
      have : (leafT 3 (n - 1 - k)).size = 1 := by unfold leafT; rw [Tm.size_mk]; simp
      simp only [List.length_cons]; omega
    · simp only [List.length_cons]; omega
end Go.Proofs.Ytbdappbmlnpogaa
namespace Go.Proofs.Ytbdappbmlnpogaa
open Go Go.RowKit
set_option maxRecDepth 100000
theorem size_leafT (k n : Int) : (leafT k n).size = 1 := by unfold leafT; rw [Tm.size_mk]; simp
set_option maxHeartbeats 8000000 in
theorem invert_Prune {F : Nat → Prop} (H : GH) (w : World) (s : Nat) (S : St) (x : Int) (keep : List Bool) (v : Value) (hA : Agree H w) (hS : StAt H w F s S) (hx : I64 x) (hK : Sl H 1 BoolP v keep) (hk : keep.length ≤ 1048576) (hn : S.V.length ≤ 1073741824) (hnT : S.T.length ≤ 1073741824) :
    Calls Try.prog 12 #[.pointer (some ⟨s, 0, none⟩), .int .i64 x, v] w (PrunePost F H w s S x keep) := by
  have hinf := Lib.hid (store_Info H w s S x hS)
  have HS := Lib.hid hS
  have HT := Lib.hid hS.tight
  have NO := Lib.hid (fun w' hx => prune_no (w' := w') (x := x) (keep := keep) hS hx)
  obtain ⟨ka, kc, rfl, hkl, hkm⟩ := hK.form
  generalize hI : S.info x = I at *
  obtain ⟨i, ok⟩ := I
  have HI := Lib.hid hI
  have HK := Lib.hid hK
  clear hI hK
  go_enter Try.func12, Try.ntmps12
  go_wp2_with fail
  refine hinf.out.mono ?_
  rintro e w1 ⟨ics, rfl, hb1, hRI⟩
  have E1 := Lib.hid (Ext.of_below (O := fun _ => False) hA hb1)
  obtain ⟨tcs, rfl, hR1, hlv⟩ := hRI
  obtain ⟨ia, ic, rfl, -, -, -, -⟩ := hR1.open_
  have B2 := Lib.hid (heap_alloc_new w1 (.cells #[.int .i64 i.lv, .bool i.bd, .int .i64 i.vl.k, .string i.vl.s, .int .i64 i.vl.n, .slice ia i.vl.l.length ic] 37 (0, 0)))
  have E2 := Lib.hid (E1.out.alloc (.cells #[.int .i64 i.lv, .bool i.bd, .int .i64 i.vl.k, .string i.vl.s, .int .i64 i.vl.n, .slice ia i.vl.l.length ic] 37 (0, 0)))
  clear hinf
  cases ok with
  | false =>
    go_wp2_with fail
    go_ret
    exact NO.out _ E2.out (by simp)
  | true =>
    cases hbd : i.bd with
    | true =>
      have hbd' := Lib.hid hbd
      rw [hbd] at E2
      go_wp2_with fail
      go_ret
      exact NO.out _ E2.out (by simp [hbd'.out])
    | false =>
      have hbd' := Lib.hid hbd
      rw [hbd] at E2 B2
      have hin : S.info x = (i, true) := HI.out
      have hpr := Lib.hid (show S.prune x keep = ((S.hang x i.lv keep.length (St.pruneOn keep.length keep 0)).2, 0) by unfold St.prune; rw [hin]; simp [hbd'.out])
      have hz1 : w1.heap.size < (w1.alloc (.cells #[.int .i64 i.lv, .bool false, .int .i64 i.vl.k, .string i.vl.s, .int .i64 i.vl.n, .slice ia i.vl.l.length ic] 37 (0, 0))).heap.size := by simp
      have HZ1 := Lib.hid hz1
      have hkN : (keep.length : Int) ≤ 1048576 := by omega
      clear hz1
      go_wp2_with fail
      go_loopw [9, 26] (fun v j wr => PruneRel H (w1.alloc (.cells #[.int .i64 i.lv, .bool false, .int .i64 i.vl.k, .string i.vl.s, .int .i64 i.vl.n, .slice ia i.vl.l.length ic] 37 (0, 0))) keep.length keep v j wr) (fun _ j _ => keep.length - (intOf j).toNat)
      case atStart => exact ⟨0, Nat.zero_le _, rfl, Ext.refl E2.out.agree, by simp [St.pruneOn]; exact Own.nil _ _ _ _ _ _⟩
      case round =>
        obtain ⟨j, hj, rfl, EC, own⟩ := hrel
        obtain ⟨oa, oc, rfl, hol, hom⟩ := own.form
        have HEC := Lib.hid EC
        have HOWN := Lib.hid own
        clear EC own
        by_cases hlt : j < keep.length
        · obtain ⟨b, hb⟩ : ∃ b, keep[j]? = some b := ⟨_, List.getElem?_eq_getElem hlt⟩
          obtain ⟨kb, ko, cs, rfl, -, rfl, hcell⟩ := HK.out.get hb
          have c0 := HEC.out.agree.cell (hcell 0 _ rfl)
          simp only [Nat.add_zero, Nat.mul_one] at c0
          have hbl := World.block_lt_of_cell? wr _ c0
          have HB := Lib.hid hb
          clear hb hcell
          have hbn := Lib.hid (fun W => invert_bound H W (keep.length - 1 - j) (by unfold I64; omega))
          have HLN := Lib.hid (show (St.pruneOn keep.length (keep.take j) 0).length + 1 ≤ 2513169434916 by have := pruneOn_len keep.length (keep.take j) 0; rw [List.length_take] at this; omega)
          cases b with
          | false =>
            go_wp2_with fail
            go_roundw
            case rel =>
              refine ⟨j + 1, by omega, by go_num, HEC.out, ?_⟩
              have := pruneOn_take keep.length keep j false HB.out
              simp at this
              rw [this]
              exact HOWN.out
            case measure => simp [intOf]; omega
          | true =>
            go_wp2_with fail
            refine (hbn.out _).mono ?_
            rintro e w2 ⟨cs2, rfl, hb2, R2⟩
            have own2 := HOWN.out.below hb2
            have E2' := HEC.out.then_below hb2
            obtain ⟨xa, xc, rfl, -, -, -, -⟩ := R2.open_
            go_wp2_with (at_builtin; refine wpList_own1 rfl _ _ rfl isSl_tms (.slice oa (St.pruneOn keep.length (keep.take j) 0).length oc) rfl w2.heap.size 1 rfl (own2.alloc _) (E2'.agree.alloc _) (Nat.le_trans E2'.size (by simp)) _ (heap_alloc_new w2 _) _ R2 rfl R2.one (by have := HLN.out; unfold maxLen; omega) (by have := HLN.out; omega) ?_; intro v' w' own' hg' hb')
            go_roundw
            case rel =>
              refine ⟨j + 1, by omega, by go_num, (E2'.alloc _).grown hg' own2.free (fun g hg hlt => absurd hlt (Nat.not_lt.2 (own2.lt g hg).1)), ?_⟩
              have := pruneOn_take keep.length keep j true HB.out
              simp at this
              rw [this]
              exact own'
            case measure => simp [intOf]; omega
        · have hjl : j = keep.length := by omega
          have hown := HOWN.out
          rw [hjl, List.take_length] at hown
          rw [hjl, List.take_length]
          obtain ⟨H2, X2, hs2, ho2, hT2⟩ := hown.freeze_ext HEC.out (Nat.le_refl _) (fun _ _ h => h.len)
          have hT2 : Tms H2 _ (St.pruneOn keep.length keep 0) := Sl.mono (Sub.refl _) (fun _ _ _ h => Rep.mono hs2 h) hT2
          have q1 := Below.blk X2.below B2.out
          obtain ⟨r0, r1, r2, r3, r4, r5, r6⟩ := box6 q1
          have EF := Lib.hid (E2.out.then X2)
          have hsz := sizeL_pruneOn keep.length keep 0
          have hap := (Tm.apply_size (leafT 4 S.V.length) (St.pruneOn keep.length keep 0)).1
          have hla := lams_size keep.length (Tm.apply (leafT 4 S.V.length) (St.pruneOn keep.length keep 0))
          rw [size_leafT] at hap
          have hhg := Lib.hid (invert_hang H2 wr s S x i.lv keep.length (St.pruneOn keep.length keep 0) _ EF.out.agree (HT.out.pure EF.out) hx hlv hn hnT (by omega) hT2 (by unfold Tm.lams SB; simp only [Int.toNat_natCast]; omega))
          clear hown hT2 q1 hsz hap hla hs2 ho2 X2
          go_wp2_with fail
          refine hhg.out.mono ?_
          rintro e w3 ⟨H3, cs3, rfl, X3, R3, S3⟩
          obtain ⟨xa, xc, rfl, -, -, -, -⟩ := R3.open_
          go_wp2_with fail
          go_ret
          unfold PrunePost
          rw [hpr.out]
          refine ⟨H3, rfl, (EF.out.mono (O' := F) (fun _ h => h.elim)).trans X3 (fun k hk _ => hk.1), S3.mono fun k hk => ?_⟩
          rcases hk with h | h
          · exact .inl h.1
          · exact .inr (Nat.le_trans EF.out.size h)
end Go.Proofs.Ytbdappbmlnpogaa
