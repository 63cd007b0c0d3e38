/- term.within, Size, moved, walk, Shift, Subst. term.walk: a term with other leaves. term.Shift, Subst. term.Subst. term.each, Loose, Vars, Lams; slices.Index, Contains at int. slices.Index, Contains at int; term.Vars; term.Lams. Packages beta, eta, clause on plain trees. -/
import Derived.Test.YtbdappbmlnpogaaBP4
import Derived.StillTailTactics
namespace Go.Proofs.Ytbdappbmlnpogaa
open Go Go.Proofs Go.RowKit
set_option maxRecDepth 100000
section
variable {O : Nat → Prop} {H H1 : GH} {w w1 : World}
theorem Ext.store4 (E : Ext O H w H1 w1) {b : Nat} (hn : H1 b = none) (hb : w.heap.size ≤ b) (v0 v1 v2 v3 : Value) : Ext O H w H1 ((((w1.setCell ⟨b, 0, none⟩ v0).setCell ⟨b, 1, none⟩ v1).setCell ⟨b, 2, none⟩ v2).setCell ⟨b, 3, none⟩ v3) :=
  (((E.setCell (p := ⟨b, 0, none⟩) hn (fun h => absurd h (Nat.not_lt.2 hb)) v0).setCell (p := ⟨b, 1, none⟩) hn (fun h => absurd h (Nat.not_lt.2 hb)) v1).setCell (p := ⟨b, 2, none⟩) hn (fun h => absurd h (Nat.not_lt.2 hb)) v2).setCell (p := ⟨b, 3, none⟩) hn (fun h => absurd h (Nat.not_lt.2 hb)) v3
end
theorem Tms.drop {H : GH} {b o n cap : Nat} {l : List Tm} (h : Tms H (.slice (some ⟨b, o, none⟩) n cap) l) (k : Nat) (hk : k ≤ n) : Tms H (.slice (some ⟨b, o + k * 4, none⟩) (n - k) (cap - k)) (l.drop k) := by
  obtain ⟨a, cap', C, hv, hl, hc, hr, hx⟩ := h
  injection hv with h1 h2 h3
  subst h1; subst h2; subst h3
  refine ⟨_, _, fun i => C (i + k), by rw [List.length_drop], by rw [List.length_drop]; omega, by omega, fun hn => ?_, fun i x hi => ?_⟩
  · rw [List.length_drop] at hn ⊢
    obtain ⟨b', o', hb, hcell⟩ := hr (by omega)
    injection hb with hb
    injection hb with hb1 hb2
    subst hb1; subst hb2
    refine ⟨b, o + k * 4, rfl, fun i hi => ?_⟩
    obtain ⟨h1, h2⟩ := hcell (i + k) (by omega)
    refine ⟨h1, fun j u hu => ?_⟩
    have := h2 j u hu
    rw [show o + k * 4 + (i * 4 + j) = o + ((i + k) * 4 + j) by omega]
    exact this
  · rw [List.getElem?_drop] at hi
    rw [Nat.add_comm] at hi
    exact hx (i + k) x hi
def Tm.kids (t : Tm) : List Tm := if t.k = 5 ∨ t.k = 6 then t.l else []
theorem term_within (t : Tm) (cs : List Value) (H : GH) (w : World) (hR : Rep H t cs) :
    Calls Try.prog 63 #[.agg cs.toArray] w fun e w' => ∃ v, e = .returned (.tuple #[v, .int .i64 t.by_]) ∧ Tms H v t.kids ∧ Below w.heap.size w w' := by
  obtain ⟨a, cap, rfl, hk, hn, hs, hl⟩ := hR.open_
  by_cases h5 : t.k = 5
  · have hb : t.by_ = 1 := by simp [Tm.by_, h5]
    have hkk : t.kids = t.l := by simp [Tm.kids, h5]
    rw [hb, hkk, h5]
    clear hb hkk h5
    have b5 : ((5 : Int) == 5) = true := rfl
    go_enter Try.func63, Try.ntmps63
    go_wp2_with fail
    go_ret2
    exact ⟨_, rfl, hl, below_alloc _ _⟩
  · have b5 : (t.k == 5) = false := by rw [beq_eq_false_iff_ne]; exact h5
    have hb : t.by_ = 0 := by simp [Tm.by_, h5]
    rw [hb]
    by_cases h6 : t.k = 6
    · have hkk : t.kids = t.l := by simp [Tm.kids, h6]
      have b6 : (t.k == 6) = true := by rw [beq_iff_eq]; exact h6
      rw [hkk]
      clear hb hkk h6 h5
      go_enter Try.func63, Try.ntmps63
      go_wp2_with fail
      go_ret2
      exact ⟨_, rfl, hl, below_alloc _ _⟩
    · have hkk : t.kids = [] := by simp [Tm.kids, h5, h6]
      have b6 : (t.k == 6) = false := by rw [beq_eq_false_iff_ne]; exact h6
      rw [hkk]
      clear hb hkk h6 h5
      go_enter Try.func63, Try.ntmps63
      go_wp2_with fail
      go_ret2
      exact ⟨_, rfl, Sl.nil _ _ _, below_alloc _ _⟩
theorem term_moved (t : Tm) (cs : List Value) (b : Int) (H : GH) (w : World) (hR : Rep H t cs) (hA : Agree H w) (hb : I64 (t.n + b)) :
    Calls Try.prog 99 #[.agg cs.toArray, .int .i64 b] w fun e w' => ∃ cs', e = .returned (.agg cs'.toArray) ∧ Rep H (Tm.moved t b) cs' ∧ Below w.heap.size w w' := by
  obtain ⟨a, cap, rfl, hk, hn, hs, hl⟩ := hR.open_
  have hb' := hb
  unfold I64 at hb'
  obtain ⟨hb1, hb2⟩ := hb'
  have hw := IntWalk.i64_in (t.n + b) (by omega)
  go_enter Try.func99, Try.ntmps99
  go_wp2_with fail
  exact bodyPost_ret (v := .agg #[.int .i64 t.k, .string t.s, .int .i64 (t.n + b), .slice a t.l.length cap]) (by simp [results, Try.results99, go_sem]) rfl ⟨_, rfl, Rep.shut hk hb hs hl, ((Below.refl _ _).alloc (Nat.le_refl _) _).alloc (by simp) _⟩
theorem gsize_mk (k : Int) (s : ByteArray) (n : Int) (l : List Tm) : (Tm.mk k s n l).gsize = 1 + Tm.gsizeL (Tm.kids (.mk k s n l)) := by
  rw [Tm.gsize]
  show _ = 1 + Tm.gsizeL (if k = 5 ∨ k = 6 then l else [])
  by_cases h : k = 5 ∨ k = 6
  · rw [if_pos h, if_pos h]
  · rw [if_neg h, if_neg h, Tm.gsizeL]
theorem gsizeL_append (a b : List Tm) : Tm.gsizeL (a ++ b) = Tm.gsizeL a + Tm.gsizeL b := by
  induction a with
  | nil => rw [List.nil_append, Tm.gsizeL]; omega
  | cons x xs ih => rw [List.cons_append, Tm.gsizeL, Tm.gsizeL, ih]; omega
theorem gsize_le (t : Tm) : 0 ≤ t.gsize ∧ t.gsize ≤ t.size := by
  induction t using Tm.ind with
  | h k s n l ih =>
    have hl : 0 ≤ Tm.gsizeL l ∧ Tm.gsizeL l ≤ Tm.sizeL l := by
      clear k s n
      induction l with
      | nil => rw [Tm.gsizeL]; simp
      | cons x xs ihx =>
        have h1 := ih x (by simp)
        have h2 := ihx (fun t ht => ih t (by simp [ht]))
        rw [Tm.gsizeL, Tm.sizeL_cons]
        omega
    rw [Tm.gsize, Tm.size_mk]
    split <;> omega
theorem gsizeL_take (l : List Tm) (k : Nat) : 0 ≤ Tm.gsizeL (l.take k) ∧ Tm.gsizeL (l.take k) ≤ Tm.sizeL l := by
  have h : ∀ l : List Tm, 0 ≤ Tm.gsizeL l ∧ Tm.gsizeL l ≤ Tm.sizeL l := by
    intro l
    induction l with
    | nil => rw [Tm.gsizeL]; simp
    | cons x xs ihx =>
      have h1 := gsize_le x
      rw [Tm.gsizeL, Tm.sizeL_cons]
      omega
  have h1 := h (l.take k)
  have h2 : Tm.sizeL l = Tm.sizeL (l.take k) + Tm.sizeL (l.drop k) := by rw [← Tm.sizeL_append, List.take_append_drop]
  omega
theorem kids_mem {t u : Tm} (h : u ∈ t.kids) : u ∈ t.l := by
  unfold Tm.kids at h
  split at h
  · exact h
  · cases h
theorem kids_size (t : Tm) : Tm.sizeL t.kids < t.size := by
  cases t with
  | mk k s n l =>
    unfold Tm.kids
    rw [Tm.size_mk]
    split <;> simp
    omega
/-- What has been counted when k parts have. -/
def cnt (l : List Tm) (k : Nat) : Int := 1 + Tm.gsizeL (l.take k)
set_option maxHeartbeats 1000000 in
theorem term_Size (t : Tm) : ∀ (cs : List Value) (H : GH) (w : World), Rep H t cs → Agree H w → t.size ≤ LB →
    Calls Try.prog 102 #[.agg cs.toArray] w fun e w' => e = .returned (.int .i64 t.gsize) ∧ Below w.heap.size w w' := by
  induction t using Tm.ind with
  | h k s n l ih =>
    intro cs H w hR hA hsz
    have hg := Lib.hid (gsize_mk k s n l)
    have hks := kids_size (.mk k s n l)
    have hkm : ∀ u ∈ Tm.kids (.mk k s n l), u ∈ l := fun u hu => kids_mem hu
    unfold LB at hsz
    have hwi := Lib.hid (fun W => term_within (.mk k s n l) cs H W hR)
    generalize Tm.kids (.mk k s n l) = kids at hg hks hkm hwi
    generalize Tm.by_ (.mk k s n l) = by_ at hwi
    obtain ⟨a, cap, rfl, hk, hn, hs, hl⟩ := hR.open_
    simp only [Tm.k_mk, Tm.s_mk, Tm.n_mk, Tm.l_mk] at *
    go_enter Try.func102, Try.ntmps102
    go_wp2_with fail
    refine (hwi.out _).mono ?_
    rintro e w1 ⟨v, rfl, hT, hb1⟩
    have hb1 := (below_alloc _ _).trans (hb1.mono (below_alloc _ _).size)
    obtain ⟨va, vc, rfl, hlc, hvc⟩ := hT.form
    unfold maxLen at hvc
    have hlen := Tm.length_le_sizeL kids
    go_wp2_with fail
    go_loopw [3, 15] (fun m i wr => ∃ j : Nat, j ≤ kids.length ∧ i = .int .i64 j ∧ m = .int .i64 (cnt kids j) ∧ Below w.heap.size w wr) (fun _ i _ => kids.length - (intOf i).toNat)
    case atStart => exact ⟨0, Nat.zero_le _, rfl, rfl, hb1⟩
    case round =>
      obtain ⟨j, hj, rfl, rfl, hb⟩ := hrel
      by_cases hlt : j < kids.length
      · have hx : kids[j]? = some kids[j] := List.getElem?_eq_getElem hlt
        obtain ⟨b, o, cs', rfl, hcl, hR', hcell⟩ := hT.get hx
        have hA' := hA.below hb
        have hmem := hkm _ (List.getElem_mem hlt)
        have hszj := Tm.size_le_sizeL (List.getElem_mem hlt)
        have hcall := Lib.hid (fun W hW => ih kids[j] hmem cs' H W hR' (hA'.below hW) (by unfold LB; omega))
        have hstep : cnt kids (j + 1) = cnt kids j + kids[j].gsize := by
          unfold cnt
          rw [List.take_add_one, hx, gsizeL_append]
          show 1 + (Tm.gsizeL (kids.take j) + Tm.gsizeL [kids[j]]) = _
          rw [Tm.gsizeL, Tm.gsizeL]; omega
        have hc1 : 0 ≤ cnt kids j ∧ cnt kids j ≤ 2513169434920 := by have := gsizeL_take kids j; unfold cnt; omega
        have hc2 := gsize_le kids[j]
        obtain ⟨a1, cap1, rfl, -⟩ := hR'.open_
        have c0 := hA'.cell (hcell 0 _ rfl)
        have c1 := hA'.cell (hcell 1 _ rfl)
        have c2 := hA'.cell (hcell 2 _ rfl)
        have c3 := hA'.cell (hcell 3 _ rfl)
        simp only [Nat.add_zero, ← Nat.add_assoc] at c0 c1 c2 c3
        have HS := Lib.hid hstep
        obtain ⟨hc1a, hc1b⟩ := hc1
        obtain ⟨hc2a, hc2b⟩ := hc2
        have hc2c : kids[j].gsize ≤ 2513169434916 := by omega
        have hbl := World.block_lt_of_cell? wr _ c0
        clear hx hcell hstep hcl hc2b
        go_wp2_with fail
        refine (hcall.out _ (below_alloc _ _)).mono ?_
        rintro e w2 ⟨rfl, hb2⟩
        go_wp2_with fail
        go_roundw
        case rel => exact ⟨j + 1, by omega, by go_num, by rw [HS.out], hb.trans (((below_alloc _ _).trans (hb2.mono (below_alloc _ _).size)).mono hb.size)⟩
        case measure => simp [intOf]; omega
      · have hjl : j = kids.length := by omega
        have HJ := Lib.hid hjl
        clear hjl
        go_wp2_with fail
        go_ret
        refine ⟨?_, hb⟩
        rw [hg.out]
        have : cnt kids j = 1 + Tm.gsizeL kids := by unfold cnt; rw [List.take_of_length_le (by have := HJ.out; omega)]
        rw [← this]
        rfl
end Go.Proofs.Ytbdappbmlnpogaa
namespace Go.Proofs.Ytbdappbmlnpogaa
open Go Go.Proofs Go.RowKit
set_option maxRecDepth 100000
/-! ### walk -/
/-- A term's own list isn't empty where it is an application; so of all in it. -/
def Tm.hd6 (t : Tm) : Prop := t.k = 6 → t.l ≠ []
mutual
def Tm.shp : Tm → Bool | .mk k _ _ l => (!(k == 6) || !l.isEmpty) && Tm.shpL l
def Tm.shpL : List Tm → Bool | [] => true | t :: ts => t.shp && Tm.shpL ts
end
theorem Tm.shp_mk (k s n l) : (Tm.mk k s n l).shp = ((!(k == 6) || !l.isEmpty) && Tm.shpL l) := by rw [Tm.shp]
theorem Tm.shpL_iff (l : List Tm) : Tm.shpL l = true ↔ ∀ t ∈ l, t.shp = true := by
  induction l with
  | nil => rw [Tm.shpL]; simp
  | cons x xs ih => rw [Tm.shpL]; simp [ih]
theorem Tm.shp_hd6 {t : Tm} (h : t.shp = true) : t.hd6 := by
  cases t with
  | mk k s n l =>
    rw [Tm.shp_mk] at h
    intro hk hl
    simp only [Tm.k_mk, Tm.l_mk] at hk hl
    subst hk; subst hl
    simp at h
theorem Tm.shp_of_valid (t : Tm) (h : t.valid = true) : t.shp = true := by
  induction t using Tm.ind with
  | h k s n l ih =>
    rw [Tm.valid_mk, Bool.and_eq_true, Tm.validL_iff] at h
    rw [Tm.shp_mk, Bool.and_eq_true, Tm.shpL_iff]
    refine ⟨?_, fun t ht => ih t ht (h.2 t ht)⟩
    by_cases hk : k = 6
    · subst hk
      have h1 := h.1
      rw [Tm.ok1, if_neg (by decide), if_neg (by decide), if_neg (by decide), if_neg (by decide), if_neg (by decide), if_pos rfl] at h1
      cases l with
      | nil => simp at h1
      | cons x xs => simp
    · simp [hk]
theorem Tm.apply_hd6 (f : Tm) (args : List Tm) (h : f.hd6) : (f.apply args).hd6 := by
  unfold Tm.apply
  split
  · exact h
  · split
    · rename_i h1 h2
      intro _ hl
      simp only [Tm.l_mk, List.append_eq_nil_iff] at hl
      exact h2.2 hl.1
    · intro _ hl
      simp at hl
theorem Tm.apply_size (f : Tm) (args : List Tm) : (f.apply args).size ≤ f.size + Tm.sizeL args + 1 ∧ Tm.sizeL args ≤ (f.apply args).size ∧ f.size ≤ (f.apply args).size := by
  unfold Tm.apply
  split
  · rename_i h; subst h; simp
  · split
    · cases f with
      | mk k s n l => simp only [Tm.size_mk, Tm.l_mk, Tm.sizeL_append]; omega
    · simp only [Tm.size_mk, Tm.sizeL_cons]; omega
theorem Tm.remake_hd6 (k s n) (l out : List Tm) (h : k = 6 → out ≠ []) (ho : (out.getD 0 Tm.zero).hd6) : (Tm.remake k s n l out).hd6 := by
  unfold Tm.remake
  split
  · exact Tm.apply_hd6 _ _ ho
  · intro hk; exact h hk
theorem Tm.remake_size (k s n) (l out : List Tm) : Tm.sizeL out ≤ (Tm.remake k s n l out).size := by
  unfold Tm.remake
  split
  · rename_i h
    cases out with
    | nil => simp
    | cons x xs =>
      simp only [List.getD_cons_zero, List.drop_succ_cons, List.drop_zero, Tm.sizeL_cons]
      have hk : x.k = 6 := by simpa using h.2.2.1
      have hne : xs ≠ [] := by rintro rfl; simp at h
      unfold Tm.apply
      rw [if_neg hne]
      split
      · cases x with
        | mk k s n l => simp only [Tm.size_mk, Tm.l_mk, Tm.sizeL_append]; omega
      · simp only [Tm.size_mk, Tm.sizeL_cons]; omega
  · rw [Tm.size_mk]; omega

/-- What the leaves' function of a walk comes to, at the leaves of which L speaks. -/
def LeafOK (g : FuncId) (caps : Array Value) (f : Tm → Int → Tm) (H0 : GH) (L : Tm → Int → Prop) : Prop :=
  ∀ u d, L u d → (f u d).hd6 ∧ (f u d).size ≤ LB ∧ ∀ cs H w, Sub H0 H → Agree H w → Rep H u cs →
    Calls Try.prog g (#[.agg cs.toArray, .int .i64 d] ++ caps) w fun e w' => ∃ H' cs', e = .returned (.agg cs'.toArray) ∧ Pure H w H' w' ∧ Rep H' (f u d) cs'
theorem walk_hd6 (f : Tm → Int → Tm) (t : Tm) (d : Int) (hs : t.shp = true) (hl : ∀ p ∈ t.leaves d, (f p.1 p.2).hd6) : (t.walk f d).hd6 := by
  induction t using Tm.ind generalizing d with
  | h k s n l ih =>
    rw [Tm.walk_mk]
    rw [Tm.shp_mk, Bool.and_eq_true, Tm.shpL_iff] at hs
    by_cases hk : k = 5 ∨ k = 6
    · rw [if_pos hk]
      have hl' : ∀ t ∈ l, ∀ p ∈ t.leaves (d + if k = 5 then 1 else 0), (f p.1 p.2).hd6 := fun t ht p hp => hl p (by
        rw [Tm.leaves, if_pos hk]
        clear ih hs hl
        induction l with
        | nil => cases ht
        | cons x xs ihx =>
          rw [Tm.leavesL]
          rcases List.mem_cons.1 ht with rfl | ht
          · exact List.mem_append_left _ hp
          · exact List.mem_append_right _ (ihx ht))
      refine Tm.remake_hd6 k s n l _ (fun h6 h => ?_) ?_
      · subst h6
        rw [Tm.walkL_map] at h
        have hl0 : l = [] := by simpa using h
        subst hl0
        simp at hs
      · cases l with
        | nil => intro h; simp [Tm.zero] at h
        | cons x xs =>
          rw [Tm.walkL_cons, List.getD_cons_zero]
          exact ih x (by simp) _ (hs.2 x (by simp)) (hl' x (by simp))
    · rw [if_neg hk]
      exact hl (.mk k s n l, d) (by rw [Tm.leaves, if_neg hk]; simp)
theorem walk_size (f : Tm → Int → Tm) (t : Tm) (d : Int) : ∀ k s n l, t = .mk k s n l → (k = 5 ∨ k = 6) → Tm.sizeL (Tm.walkL f l (d + if k = 5 then 1 else 0)) ≤ (t.walk f d).size := by
  rintro k s n l rfl hk
  rw [Tm.walk_mk, if_pos hk]
  exact Tm.remake_size _ _ _ _ _
theorem leaves_of_mem {t : Tm} {l : List Tm} (ht : t ∈ l) (d : Int) {p : Tm × Int} (hp : p ∈ t.leaves d) : p ∈ Tm.leavesL l d := by
  induction l with
  | nil => cases ht
  | cons x xs ihx =>
    rw [Tm.leavesL]
    rcases List.mem_cons.1 ht with rfl | ht
    · exact List.mem_append_left _ hp
    · exact List.mem_append_right _ (ihx ht)
/-- The relation of the walk's loop: j parts are done. -/
def WalkRel (f : Tm → Int → Tm) (H : GH) (w : World) (l : List Tm) (d : Int) (v i : Value) (wr : World) : Prop :=
  ∃ (j : Nat) (Hc : GH), j ≤ l.length ∧ i = .int .i64 j ∧ Pure H w Hc wr ∧ Own Hc wr w.heap.size 30 4 (Rep Hc) v (Tm.walkL f (l.take j) d)
theorem walkL_take (f : Tm → Int → Tm) (l : List Tm) (d : Int) (j : Nat) (x : Tm) (h : l[j]? = some x) : Tm.walkL f (l.take (j + 1)) d = Tm.walkL f (l.take j) d ++ [x.walk f d] := by
  rw [Tm.walkL_map, Tm.walkL_map, List.take_add_one, h]; simp
set_option maxHeartbeats 2000000 in
theorem walk_leaf (g : FuncId) (caps : Array Value) (eg : ∀ args w, (callFunc g args).run Try.prog w = .ok (.enter g args) w) (f : Tm → Int → Tm) (H0 : GH) (L : Tm → Int → Prop) (hleaf : LeafOK g caps f H0 L)
    (t : Tm) (d : Int) (hk : ¬ (t.k = 5 ∨ t.k = 6)) (hL : L t d) (cs : List Value) (H : GH) (w : World) (hs : Sub H0 H) (hA : Agree H w) (hR : Rep H t cs) :
    Calls Try.prog 100 #[.agg #[.func (.func g) #[] caps], .agg cs.toArray, .int .i64 d] w fun e w' => ∃ H' cs', e = .returned (.agg cs'.toArray) ∧ Pure H w H' w' ∧ Rep H' (f t d) cs' := by
  obtain ⟨-, -, hcall⟩ := hleaf t d hL
  have hcall := Lib.hid (fun W hW => hcall cs H W hs hW hR)
  clear hleaf
  obtain ⟨a, cap, rfl, -, -, -, -⟩ := hR.open_
  have b5 : (t.k == 5) = false := by rw [beq_eq_false_iff_ne]; exact fun h => hk (.inl h)
  have b6 : (t.k == 6) = false := by rw [beq_eq_false_iff_ne]; exact fun h => hk (.inr h)
  have n5 : (t.k != 5) = true := by rw [bne_iff_ne]; exact fun h => hk (.inl h)
  have n6 : (t.k != 6) = true := by rw [bne_iff_ne]; exact fun h => hk (.inr h)
  clear hk
  go_enter Try.func100, Try.ntmps100
  go_wp2_with fail
  refine (hcall.out _ ?agr).mono ?_
  case agr => exact ((hA.alloc _).alloc _).alloc _
  rintro e w1 ⟨H1, cs1, rfl, X, R1⟩
  have E1 : Pure H w H1 w1 := Ext.then ((((Ext.refl hA).alloc _).alloc _).alloc _) X
  have hn : H1 (w.heap.size + 1 + 1) = none := (X.old _ (by simp)).trans (hA.free (by omega))
  obtain ⟨hc1, hf1⟩ := bcell X.below
  obtain ⟨a1, cap1, rfl, -, -, -, -⟩ := R1.open_
  go_wp2_with fail
  exact bodyPost_ret (v := .agg #[.int .i64 (f t d).k, .string (f t d).s, .int .i64 (f t d).n, .slice a1 (f t d).l.length cap1]) (by simp [results, Try.results100, go_sem, hc1]) rfl ⟨H1, _, rfl, E1.store4 hn (by omega) _ _ _ _, R1⟩

set_option maxHeartbeats 4000000 in
theorem walk_inner (g : FuncId) (caps : Array Value) (f : Tm → Int → Tm)
    (k : Int) (s : ByteArray) (n : Int) (l : List Tm) (d : Int) (hk : k = 5 ∨ k = 6) (cs : List Value) (H : GH) (w : World) (hA : Agree H w) (hR : Rep H (.mk k s n l) cs) (hs : (Tm.mk k s n l).shp = true)
    (hd : 0 ≤ d ∧ d + (Tm.mk k s n l).size ≤ 4611686018427387904) (hsz : (Tm.mk k s n l).size ≤ LB) (hsw : ((Tm.mk k s n l).walk f d).size ≤ LB)
    (hh : ∀ u ∈ l, (u.walk f (d + if k = 5 then 1 else 0)).hd6)
    (ih : ∀ u ∈ l, ∀ cs H' w', Sub H H' → Agree H' w' → Rep H' u cs → Calls Try.prog 100 #[.agg #[.func (.func g) #[] caps], .agg cs.toArray, .int .i64 (d + if k = 5 then 1 else 0)] w' fun e w'' => ∃ H'' cs', e = .returned (.agg cs'.toArray) ∧ Pure H' w' H'' w'' ∧ Rep H'' (u.walk f (d + if k = 5 then 1 else 0)) cs') :
    Calls Try.prog 100 #[.agg #[.func (.func g) #[] caps], .agg cs.toArray, .int .i64 d] w fun e w' => ∃ H' cs', e = .returned (.agg cs'.toArray) ∧ Pure H w H' w' ∧ Rep H' ((Tm.mk k s n l).walk f d) cs' := by
  have hwi := Lib.hid (fun W => term_within (.mk k s n l) cs H W hR)
  have hkk : (Tm.mk k s n l).kids = l := by unfold Tm.kids; exact if_pos hk
  have hbb : (Tm.mk k s n l).by_ = (if k = 5 then 1 else 0) := rfl
  rw [hkk, hbb] at hwi
  have hwk := Tm.walk_mk f k s n l d
  rw [if_pos hk] at hwk
  have hso := walk_size f _ d k s n l rfl hk
  rw [Tm.size_mk] at hsz hd
  have hlen := Tm.length_le_sizeL l
  generalize hD : d + (if k = 5 then 1 else 0) = D at *
  have hDD : D = d ∨ D = d + 1 := by split at hD <;> omega
  have hbD : ∃ b : Int, (if k = 5 then 1 else 0) = b ∧ (b = 0 ∨ b = 1) ∧ d + b = D := ⟨_, rfl, by split <;> simp, hD⟩
  obtain ⟨by_, hby, hb01, hdb⟩ := hbD
  have hbl0 : 0 ≤ by_ := by omega
  have hbl1 : by_ ≤ 1 := by omega
  clear hb01
  rw [hby] at hwi
  have HDB := Lib.hid hdb
  clear hdb hby hbb hkk hD hDD
  unfold LB at hsz hsw
  have hne : k = 6 → l ≠ [] := fun h => Tm.shp_hd6 hs h
  obtain ⟨a, cap, rfl, hk64, hn64, hss, hl⟩ := hR.open_
  simp only [Tm.k_mk, Tm.s_mk, Tm.n_mk, Tm.l_mk] at *
  have hko : ((k == 5) = true ∧ (k != 5) = false) ∨ ((k == 5) = false ∧ (k != 5) = true ∧ (k != 6) = false) := by
    rcases hk with h | h <;> subst h <;> simp
  obtain ⟨hd0, hd1⟩ := hd
  have hd2 : d ≤ 4611686018427387904 := by omega
  clear hk hd1 hs hR
  rcases hko with ⟨b1, b2⟩ | ⟨b1, b2, b3⟩
  · go_enter Try.func100, Try.ntmps100
    go_wp2_with fail
    refine (hwi.out _).mono ?_
    rintro e w1 ⟨v, rfl, hT, hb1⟩
    have E1 : Pure H w H w1 := ((((Ext.refl hA).alloc _).alloc _).alloc _).then_below hb1
    obtain ⟨va, vc, rfl, hlc, hvc⟩ := hT.form
    obtain ⟨hc1, hf1⟩ := bcell hb1
    unfold maxLen at hvc
    go_wp2_with fail
    have hz1 : w.heap.size + 1 + 1 < w1.heap.size := by have := hb1.size; simp at this; omega
    go_loopw [9, 32] (fun v i wr => WalkRel f H w1 l D v i wr) (fun _ i _ => l.length - (intOf i).toNat)
    case atStart => exact ⟨0, H, Nat.zero_le _, rfl, Ext.refl E1.agree, Own.nil _ _ _ _ _ _⟩
    case round =>
      obtain ⟨j, Hc, hj, rfl, EC, own⟩ := hrel
      have hcr := (bcell EC.below).1
      have hzr : w.heap.size + 1 + 1 < wr.heap.size := Nat.lt_of_lt_of_le hz1 EC.size
      have hzA : w.heap.size < wr.heap.size := by omega
      have hzB : w.heap.size + 1 < wr.heap.size := by omega
      have q0 : wr.cell? ⟨w.heap.size, 0, none⟩ = some (.func (.func g) #[] caps) := (hcr _ _ (by omega)).trans ((hc1 _ _ (by simp; omega)).trans (by go_simp))
      by_cases hlt : j < l.length
      · have hx : l[j]? = some l[j] := List.getElem?_eq_getElem hlt
        obtain ⟨b, o, cs', rfl, hcl, hRu, hcell⟩ := hT.get hx
        have hcall := Lib.hid (fun W hW => ih l[j] (List.getElem_mem hlt) cs' Hc W EC.sub hW (hRu.mono EC.sub))
        have HX := Lib.hid hx
        obtain ⟨ua, uc, rfl, -, -, -, -⟩ := hRu.open_
        have c0 := EC.agree.cell (GH.cell?_mono EC.sub (hcell 0 _ rfl))
        have c1 := EC.agree.cell (GH.cell?_mono EC.sub (hcell 1 _ rfl))
        have c2 := EC.agree.cell (GH.cell?_mono EC.sub (hcell 2 _ rfl))
        have c3 := EC.agree.cell (GH.cell?_mono EC.sub (hcell 3 _ rfl))
        simp only [Nat.add_zero, ← Nat.add_assoc] at c0 c1 c2 c3
        have hbl := World.block_lt_of_cell? wr _ c0
        clear hx hcell hcl
        clear hcr
        go_wp2_with fail
        rw [HDB.out]
        refine (hcall.out _ (EC.agree.alloc _)).mono ?_
        rintro e w2 ⟨H2, cs2, rfl, X2, R2⟩
        have own2 := (own.alloc (.cells #[.int .i64 l[j].k, .string l[j].s, .int .i64 l[j].n, .slice ua l[j].l.length uc] 30)).pure X2 (fun _ _ h => Rep.mono X2.sub h)
        have E2 := (EC.alloc (.cells #[.int .i64 l[j].k, .string l[j].s, .int .i64 l[j].n, .slice ua l[j].l.length uc] 30)).then X2
        have hlw : (Tm.walkL f (l.take j) D).length + 1 ≤ 2513169434916 := by rw [Tm.walkL_map, List.length_map, List.length_take]; omega
        have HLW := Lib.hid hlw
        clear hlw hcall X2
        obtain ⟨xa, xc, rfl, -, -, -, -⟩ := R2.open_
        go_wp2_with (at_builtin; refine wpList_own1 rfl _ _ rfl isSl_tms _ rfl w2.heap.size 1 rfl (own2.alloc _) (E2.agree.alloc _) (Nat.le_trans E2.size (by simp)) _ (heap_alloc_new w2 _) _ R2 rfl R2.one (by have := HLW.out; unfold maxLen; omega) (by have := HLW.out; omega) ?_; intro v' w' own' hg' hb')
        go_roundw
        case rel =>
          refine ⟨j + 1, H2, by omega, by go_num, (E2.alloc _).grown hg' own2.free (fun g hg hlt => absurd hlt (Nat.not_lt.2 (own2.lt g hg).1)), ?_⟩
          rw [walkL_take f l D j _ HX.out]
          exact own'
        case measure => simp [intOf]; omega
      · have hjl : j = l.length := by omega
        rw [hjl, List.take_length] at own
        obtain ⟨H2, E2, hs2, ho2, hT2⟩ := own.freeze_ext EC (Nat.le_refl _) (fun _ _ h => h.len)
        have hT2 : Tms H2 u9 (Tm.walkL f l D) := Sl.mono (Sub.refl _) (fun _ _ _ h => Rep.mono hs2 h) hT2
        have hn2 : H2 (w.heap.size + 1 + 1) = none := (ho2 _ hz1).trans ((EC.old _ hz1).trans (hA.free (by omega)))
        have EF := E1.then E2
        have hfr := (bcell EC.below).2
        have p0 : wr.cell? ⟨w.heap.size + 1, 0, none⟩ = some (.int .i64 k) := (hcr _ _ (by omega)).trans ((hc1 _ _ (by simp)).trans (by go_simp))
        have p1 : wr.cell? ⟨w.heap.size + 1, 1, none⟩ = some (.string s) := (hcr _ _ (by omega)).trans ((hc1 _ _ (by simp)).trans (by go_simp))
        have p2 : wr.cell? ⟨w.heap.size + 1, 2, none⟩ = some (.int .i64 n) := (hcr _ _ (by omega)).trans ((hc1 _ _ (by simp)).trans (by go_simp))
        have r0 : wr.cell? ⟨w.heap.size + 1 + 1, 0, none⟩ = some (.int .i64 0) := (hcr _ _ (by omega)).trans ((hc1 _ _ (by simp)).trans (by go_simp))
        have r1 : wr.cell? ⟨w.heap.size + 1 + 1, 1, none⟩ = some (.string ⟨#[]⟩) := (hcr _ _ (by omega)).trans ((hc1 _ _ (by simp)).trans (by go_simp))
        have r2 : wr.cell? ⟨w.heap.size + 1 + 1, 2, none⟩ = some (.int .i64 0) := (hcr _ _ (by omega)).trans ((hc1 _ _ (by simp)).trans (by go_simp))
        have r3 : wr.cell? ⟨w.heap.size + 1 + 1, 3, none⟩ = some (.slice none 0 0) := (hcr _ _ (by omega)).trans ((hc1 _ _ (by simp)).trans (by go_simp))
        have fz : ∀ i, wr.frozen? ⟨w.heap.size + 1 + 1, i, none⟩ = false := fun i => (hfr _ _ (by omega)).trans ((hf1 _ _ (by simp)).trans (by go_simp))
        have fz0 := fz 0
        have fz1 := fz 1
        have fz2 := fz 2
        have fz3 := fz 3
        have hwk' := Lib.hid hwk
        clear hcr hfr fz hjl hwk hso own
        obtain ⟨oa, oc, rfl, hoc, hocm⟩ := hT2.form
        have hk6 : (k == 6) = false := by rw [beq_eq_false_iff_ne]; have := beq_iff_eq.1 b1; omega
        go_wp2_with fail
        have hE := EF.store4 hn2 (by omega) (.int .i64 k) (.string s) (.int .i64 n) (.slice oa (Tm.walkL f l D).length oc)
        refine bodyPost_ret (v := .agg #[.int .i64 k, .string s, .int .i64 n, .slice oa (Tm.walkL f l D).length oc]) (by simp [results, Try.results100, go_sem, r0, r1, r2, r3]) rfl ⟨H2, _, rfl, hE, ?_⟩
        rw [hwk'.out, Tm.remake, if_neg (fun h => by have := beq_eq_false_iff_ne.1 hk6; exact this h.1)]
        exact Rep.shut hk64 hn64 hss hT2
  · go_enter Try.func100, Try.ntmps100
    go_wp2_with fail
    refine (hwi.out _).mono ?_
    rintro e w1 ⟨v, rfl, hT, hb1⟩
    have E1 : Pure H w H w1 := ((((Ext.refl hA).alloc _).alloc _).alloc _).then_below hb1
    obtain ⟨va, vc, rfl, hlc, hvc⟩ := hT.form
    obtain ⟨hc1, hf1⟩ := bcell hb1
    unfold maxLen at hvc
    go_wp2_with fail
    have hz1 : w.heap.size + 1 + 1 < w1.heap.size := by have := hb1.size; simp at this; omega
    go_loopw [9, 32] (fun v i wr => WalkRel f H w1 l D v i wr) (fun _ i _ => l.length - (intOf i).toNat)
    case atStart => exact ⟨0, H, Nat.zero_le _, rfl, Ext.refl E1.agree, Own.nil _ _ _ _ _ _⟩
    case round =>
      obtain ⟨j, Hc, hj, rfl, EC, own⟩ := hrel
      have hcr := (bcell EC.below).1
      have hzr : w.heap.size + 1 + 1 < wr.heap.size := Nat.lt_of_lt_of_le hz1 EC.size
      have hzA : w.heap.size < wr.heap.size := by omega
      have hzB : w.heap.size + 1 < wr.heap.size := by omega
      have q0 : wr.cell? ⟨w.heap.size, 0, none⟩ = some (.func (.func g) #[] caps) := (hcr _ _ (by omega)).trans ((hc1 _ _ (by simp; omega)).trans (by go_simp))
      by_cases hlt : j < l.length
      · have hx : l[j]? = some l[j] := List.getElem?_eq_getElem hlt
        obtain ⟨b, o, cs', rfl, hcl, hRu, hcell⟩ := hT.get hx
        have hcall := Lib.hid (fun W hW => ih l[j] (List.getElem_mem hlt) cs' Hc W EC.sub hW (hRu.mono EC.sub))
        have HX := Lib.hid hx
        obtain ⟨ua, uc, rfl, -, -, -, -⟩ := hRu.open_
        have c0 := EC.agree.cell (GH.cell?_mono EC.sub (hcell 0 _ rfl))
        have c1 := EC.agree.cell (GH.cell?_mono EC.sub (hcell 1 _ rfl))
        have c2 := EC.agree.cell (GH.cell?_mono EC.sub (hcell 2 _ rfl))
        have c3 := EC.agree.cell (GH.cell?_mono EC.sub (hcell 3 _ rfl))
        simp only [Nat.add_zero, ← Nat.add_assoc] at c0 c1 c2 c3
        have hbl := World.block_lt_of_cell? wr _ c0
        clear hx hcell hcl
        clear hcr
        go_wp2_with fail
        rw [HDB.out]
        refine (hcall.out _ (EC.agree.alloc _)).mono ?_
        rintro e w2 ⟨H2, cs2, rfl, X2, R2⟩
        have own2 := (own.alloc (.cells #[.int .i64 l[j].k, .string l[j].s, .int .i64 l[j].n, .slice ua l[j].l.length uc] 30)).pure X2 (fun _ _ h => Rep.mono X2.sub h)
        have E2 := (EC.alloc (.cells #[.int .i64 l[j].k, .string l[j].s, .int .i64 l[j].n, .slice ua l[j].l.length uc] 30)).then X2
        have hlw : (Tm.walkL f (l.take j) D).length + 1 ≤ 2513169434916 := by rw [Tm.walkL_map, List.length_map, List.length_take]; omega
        have HLW := Lib.hid hlw
        clear hlw hcall X2
        obtain ⟨xa, xc, rfl, -, -, -, -⟩ := R2.open_
        go_wp2_with (at_builtin; refine wpList_own1 rfl _ _ rfl isSl_tms _ rfl w2.heap.size 1 rfl (own2.alloc _) (E2.agree.alloc _) (Nat.le_trans E2.size (by simp)) _ (heap_alloc_new w2 _) _ R2 rfl R2.one (by have := HLW.out; unfold maxLen; omega) (by have := HLW.out; omega) ?_; intro v' w' own' hg' hb')
        go_roundw
        case rel =>
          refine ⟨j + 1, H2, by omega, by go_num, (E2.alloc _).grown hg' own2.free (fun g hg hlt => absurd hlt (Nat.not_lt.2 (own2.lt g hg).1)), ?_⟩
          rw [walkL_take f l D j _ HX.out]
          exact own'
        case measure => simp [intOf]; omega
      · have hjl : j = l.length := by omega
        rw [hjl, List.take_length] at own
        obtain ⟨H2, E2, hs2, ho2, hT2⟩ := own.freeze_ext EC (Nat.le_refl _) (fun _ _ h => h.len)
        have hT2 : Tms H2 u9 (Tm.walkL f l D) := Sl.mono (Sub.refl _) (fun _ _ _ h => Rep.mono hs2 h) hT2
        have hn2 : H2 (w.heap.size + 1 + 1) = none := (ho2 _ hz1).trans ((EC.old _ hz1).trans (hA.free (by omega)))
        have EF := E1.then E2
        have hfr := (bcell EC.below).2
        have p0 : wr.cell? ⟨w.heap.size + 1, 0, none⟩ = some (.int .i64 k) := (hcr _ _ (by omega)).trans ((hc1 _ _ (by simp)).trans (by go_simp))
        have p1 : wr.cell? ⟨w.heap.size + 1, 1, none⟩ = some (.string s) := (hcr _ _ (by omega)).trans ((hc1 _ _ (by simp)).trans (by go_simp))
        have p2 : wr.cell? ⟨w.heap.size + 1, 2, none⟩ = some (.int .i64 n) := (hcr _ _ (by omega)).trans ((hc1 _ _ (by simp)).trans (by go_simp))
        have r0 : wr.cell? ⟨w.heap.size + 1 + 1, 0, none⟩ = some (.int .i64 0) := (hcr _ _ (by omega)).trans ((hc1 _ _ (by simp)).trans (by go_simp))
        have r1 : wr.cell? ⟨w.heap.size + 1 + 1, 1, none⟩ = some (.string ⟨#[]⟩) := (hcr _ _ (by omega)).trans ((hc1 _ _ (by simp)).trans (by go_simp))
        have r2 : wr.cell? ⟨w.heap.size + 1 + 1, 2, none⟩ = some (.int .i64 0) := (hcr _ _ (by omega)).trans ((hc1 _ _ (by simp)).trans (by go_simp))
        have r3 : wr.cell? ⟨w.heap.size + 1 + 1, 3, none⟩ = some (.slice none 0 0) := (hcr _ _ (by omega)).trans ((hc1 _ _ (by simp)).trans (by go_simp))
        have fz : ∀ i, wr.frozen? ⟨w.heap.size + 1 + 1, i, none⟩ = false := fun i => (hfr _ _ (by omega)).trans ((hf1 _ _ (by simp)).trans (by go_simp))
        have fz0 := fz 0
        have fz1 := fz 1
        have fz2 := fz 2
        have fz3 := fz 3
        have hwk' := Lib.hid hwk
        clear hcr hfr fz hjl hwk hso own
        have h6 : (k == 6) = true := by rw [beq_iff_eq]; have := bne_eq_false_iff_eq.1 b3; exact this
        have hlo : (Tm.walkL f l D).length = l.length := by rw [Tm.walkL_map, List.length_map]
        by_cases h1 : 1 < (Tm.walkL f l D).length
        · have h0 : 0 < (Tm.walkL f l D).length := by omega
          obtain ⟨X0, hx0⟩ : ∃ x, (Tm.walkL f l D)[0]? = some x := ⟨_, List.getElem?_eq_getElem h0⟩
          obtain ⟨oa, oc, rfl, hoc, hocm⟩ := hT2.form
          obtain ⟨ob, oo, ocs, rfl, -, hR0, hcell0⟩ := hT2.get hx0
          obtain ⟨y0, hy0⟩ : ∃ y, l[0]? = some y := ⟨_, List.getElem?_eq_getElem (by omega)⟩
          obtain ⟨lb, lo, lcs, rfl, -, hRl0, hcelll⟩ := hT.get hy0
          obtain ⟨ua, uc, rfl, -, -, -, -⟩ := hR0.open_
          obtain ⟨la, lc, rfl, -, -, -, -⟩ := hRl0.open_
          have s0 := E2.agree.cell (hcell0 0 _ rfl)
          have s1 := E2.agree.cell (hcell0 1 _ rfl)
          have s2 := E2.agree.cell (hcell0 2 _ rfl)
          have s3 := E2.agree.cell (hcell0 3 _ rfl)
          have m0 := E2.agree.cell (GH.cell?_mono E2.sub (hcelll 0 _ rfl))
          simp only [Nat.add_zero, Nat.zero_mul, Nat.zero_add] at s0 s1 s2 s3 m0
          have hg0 : (Tm.walkL f l D).getD 0 Tm.zero = X0 := by rw [List.getD_eq_getElem?_getD, hx0]; rfl
          have hg1 : l.getD 0 Tm.zero = y0 := by rw [List.getD_eq_getElem?_getD, hy0]; rfl
          have hh0 : X0.hd6 := by
            have : X0 = y0.walk f D := by
              rw [Tm.walkL_map, List.getElem?_map, hy0] at hx0
              simpa using hx0.symm
            rw [this]; exact hh _ (List.mem_of_getElem? hy0)
          have hrm : Tm.remake k s n l (Tm.walkL f l D) = if X0.k = 6 ∧ y0.k ≠ 6 then Tm.apply X0 ((Tm.walkL f l D).drop 1) else .mk k s n (Tm.walkL f l D) := by
            have hk : k = 6 := beq_iff_eq.1 h6
            unfold Tm.remake
            rw [hg0, hg1]
            by_cases hc : X0.k = 6 ∧ y0.k ≠ 6
            · rw [if_pos ⟨hk, h1, hc⟩, if_pos hc]
            · rw [if_neg (fun h => hc h.2.2), if_neg hc]
          have HRM := Lib.hid hrm
          have H1 : (1 : Int) < ((Tm.walkL f l D).length : Int) := by omega
          have hl0p : (0 : Int) < (l.length : Int) := by omega
          have hM0p : (0 : Int) < ((Tm.walkL f l D).length : Int) := by omega
          have HLO := Lib.hid hlo
          have hTd := hT2.drop 1 (by omega)
          have hszd : (Tm.walkL f l D).length ≤ 2513169434916 := by omega
          clear hrm hy0 hg0 hg1 hcelll hcell0
          clear hx0 h0 hlo
          generalize hM : (Tm.walkL f l D).length = M at *
          have HM := Lib.hid hM
          clear hM
          cases hb6 : (X0.k == 6) with
          | false =>
            go_wp2_with fail
            have hE := EF.store4 hn2 (by omega) (.int .i64 k) (.string s) (.int .i64 n) (.slice (some ⟨ob, oo, none⟩) M oc)
            refine bodyPost_ret (v := .agg #[.int .i64 k, .string s, .int .i64 n, .slice (some ⟨ob, oo, none⟩) M oc]) (by simp [results, Try.results100, go_sem, r0, r1, r2, r3]) rfl ⟨H2, _, rfl, hE, ?_⟩
            rw [hwk'.out, HRM.out, if_neg (fun h => by have := beq_eq_false_iff_ne.1 hb6; exact this h.1)]
            exact Rep.shut hk64 hn64 hss hT2
          | true =>
            cases hl6 : (y0.k != 6) with
            | false =>
              go_wp2_with fail
              have hE := EF.store4 hn2 (by omega) (.int .i64 k) (.string s) (.int .i64 n) (.slice (some ⟨ob, oo, none⟩) M oc)
              refine bodyPost_ret (v := .agg #[.int .i64 k, .string s, .int .i64 n, .slice (some ⟨ob, oo, none⟩) M oc]) (by simp [results, Try.results100, go_sem, r0, r1, r2, r3]) rfl ⟨H2, _, rfl, hE, ?_⟩
              rw [hwk'.out, HRM.out, if_neg (fun h => by have := bne_eq_false_iff_eq.1 hl6; exact h.2 this)]
              exact Rep.shut hk64 hn64 hss hT2
            | true =>
              have hcap : (oc = 1) ↔ False := by simp; omega
              have hcap1 : ((1 : Int) ≤ (oc : Int)) := by omega
              have hM1 : ((1 : Int) ≤ (M : Int)) := by omega
              have hMn : 0 < M := by omega
              have hMn1 : 1 ≤ M := by omega
              have hoc1 : ¬ (oc = 1) := by omega
              clear hcap
              go_wp2_with fail
              go_still_tail 5, (by kernel_rfl)
              change wpList _ _ _ _ _ wr.drew
              have hra : Tm.remake k s n l (Tm.walkL f l D) = Tm.apply X0 ((Tm.walkL f l D).drop 1) := by
                rw [HRM.out, if_pos ⟨beq_iff_eq.1 hb6, bne_iff_ne.1 hl6⟩]
              have HRA := Lib.hid hra
              clear hra
              go_wp2_with fail
              refine (term_Apply X0 _ ((Tm.walkL f l D).drop 1) _ H2 _ hR0 (by simpa only [Nat.one_mul] using hTd) E2.agree.drew hh0 ?len).mono ?_
              case len =>
                rw [← HRA.out, ← hwk'.out]
                unfold LB
                cases hq : Tm.walk f (Tm.mk k s n l) d with
                | mk k' s' n' l' =>
                  rw [hq] at hsw
                  have := Tm.length_lt k' s' n' l'
                  show l'.length ≤ _
                  omega
              rintro e w2 ⟨H3, cs3, rfl, X3, R3⟩
              have E3 := (EF.drew).then X3
              have hn3 : H3 (w.heap.size + 1 + 1) = none := (X3.old _ (by show _ < wr.heap.size; omega)).trans hn2
              have hx3 := (bcell X3.below).1
              have hx4 := (bcell X3.below).2
              have t0 := (hx3 (w.heap.size + 1 + 1) 0 (by show _ < wr.heap.size; omega)).trans r0
              have t1 := (hx3 (w.heap.size + 1 + 1) 1 (by show _ < wr.heap.size; omega)).trans r1
              have t2 := (hx3 (w.heap.size + 1 + 1) 2 (by show _ < wr.heap.size; omega)).trans r2
              have t3 := (hx3 (w.heap.size + 1 + 1) 3 (by show _ < wr.heap.size; omega)).trans r3
              have v0 := (hx4 (w.heap.size + 1 + 1) 0 (by show _ < wr.heap.size; omega)).trans fz0
              have v1 := (hx4 (w.heap.size + 1 + 1) 1 (by show _ < wr.heap.size; omega)).trans fz1
              have v2 := (hx4 (w.heap.size + 1 + 1) 2 (by show _ < wr.heap.size; omega)).trans fz2
              have v3 := (hx4 (w.heap.size + 1 + 1) 3 (by show _ < wr.heap.size; omega)).trans fz3
              clear hx3 hx4 X3
              generalize hY : X0.apply ((Tm.walkL f l D).drop 1) = Y at R3
              have HY := Lib.hid hY
              clear hY
              obtain ⟨ra, rc, rfl, -, -, -, -⟩ := R3.open_
              go_wp2_with fail
              have hE := E3.store4 hn3 (by omega) (.int .i64 Y.k) (.string Y.s) (.int .i64 Y.n) (.slice ra Y.l.length rc)
              refine bodyPost_ret (v := .agg #[.int .i64 Y.k, .string Y.s, .int .i64 Y.n, .slice ra Y.l.length rc]) (by simp [results, Try.results100, go_sem, t0, t1, t2, t3]) rfl ⟨H3, _, rfl, hE, ?_⟩
              rw [hwk'.out, HRA.out, HY.out]
              exact R3
        · have H1 : ¬ ((1 : Int) < ((Tm.walkL f l D).length : Int)) := by omega
          obtain ⟨oa, oc, rfl, hoc, hocm⟩ := hT2.form
          have HLO := Lib.hid hlo
          clear hlo
          go_wp2_with fail
          have hE := EF.store4 hn2 (by omega) (.int .i64 k) (.string s) (.int .i64 n) (.slice oa (Tm.walkL f l D).length oc)
          refine bodyPost_ret (v := .agg #[.int .i64 k, .string s, .int .i64 n, .slice oa (Tm.walkL f l D).length oc]) (by simp [results, Try.results100, go_sem, r0, r1, r2, r3]) rfl ⟨H2, _, rfl, hE, ?_⟩
          rw [hwk'.out, Tm.remake, if_neg (fun h => h1 h.2.1)]
          exact Rep.shut hk64 hn64 hss hT2
end Go.Proofs.Ytbdappbmlnpogaa
namespace Go.Proofs.Ytbdappbmlnpogaa
open Go Go.Proofs Go.RowKit
set_option maxRecDepth 100000
/-- A walk through a term, whatever its leaves become. -/
theorem term_walk (g : FuncId) (caps : Array Value) (eg : ∀ args w, (callFunc g args).run Try.prog w = .ok (.enter g args) w) (f : Tm → Int → Tm) (H0 : GH) (L : Tm → Int → Prop) (hleaf : LeafOK g caps f H0 L) (t : Tm) :
    ∀ (d : Int) (cs : List Value) (H : GH) (w : World), t.shp = true → (∀ p ∈ t.leaves d, L p.1 p.2) → 0 ≤ d → d + t.size ≤ 4611686018427387904 → t.size ≤ LB → (t.walk f d).size ≤ LB → Sub H0 H → Agree H w → Rep H t cs →
    Calls Try.prog 100 #[.agg #[.func (.func g) #[] caps], .agg cs.toArray, .int .i64 d] w fun e w' => ∃ H' cs', e = .returned (.agg cs'.toArray) ∧ Pure H w H' w' ∧ Rep H' (t.walk f d) cs' := by
  induction t using Tm.ind with
  | h k s n l ih =>
    intro d cs H w hs hL hd0 hd1 hsz hsw hs0 hA hR
    by_cases hk : k = 5 ∨ k = 6
    · have hlv : (Tm.mk k s n l).leaves d = Tm.leavesL l (d + if k = 5 then 1 else 0) := by rw [Tm.leaves, if_pos hk]
      have hs' := hs
      rw [Tm.shp_mk, Bool.and_eq_true, Tm.shpL_iff] at hs'
      have hso := walk_size f _ d k s n l rfl hk
      have hLu : ∀ u ∈ l, ∀ p ∈ u.leaves (d + if k = 5 then 1 else 0), L p.1 p.2 := fun u hu p hp => hL p (by rw [hlv]; exact leaves_of_mem hu _ hp)
      have hD : (d + if k = 5 then 1 else 0) = d ∨ (d + if k = 5 then 1 else 0) = d + 1 := by split <;> simp
      refine walk_inner g caps f k s n l d hk cs H w hA hR hs ⟨hd0, hd1⟩ hsz hsw (fun u hu => walk_hd6 f u _ (hs'.2 u hu) (fun p hp => (hleaf p.1 p.2 (hLu u hu p hp)).1)) (fun u hu cs' H' w' hs1 hA' hR' => ?_)
      have h1 := Tm.size_lt (k := k) (s := s) (n := n) hu
      have h2 : (u.walk f (d + if k = 5 then 1 else 0)).size ≤ Tm.sizeL (Tm.walkL f l (d + if k = 5 then 1 else 0)) := by
        rw [Tm.walkL_map]
        exact Tm.size_le_sizeL (List.mem_map.2 ⟨u, hu, rfl⟩)
      exact ih u hu _ cs' H' w' (hs'.2 u hu) (hLu u hu) (by omega) (by omega) (by omega) (by omega) (hs0.trans hs1) hA' hR'
    · have hw : (Tm.mk k s n l).walk f d = f (.mk k s n l) d := by rw [Tm.walk_mk, if_neg hk]
      rw [hw]
      exact walk_leaf g caps eg f H0 L hleaf (.mk k s n l) d hk (hL (.mk k s n l, d) (by rw [Tm.leaves, if_neg hk]; simp)) cs H w hs0 hA hR

/-- What is asked of a leaf that is moved. -/
def ShiftL (from_ by_ : Int) (u : Tm) (d : Int) : Prop := u.hd6 ∧ u.size ≤ LB ∧ I64 (d + from_) ∧ (u.k = 3 → I64 (u.n + by_))
theorem shift1_leaf (from_ by_ : Int) (b1 b2 : Nat) (H0 : GH) (h1 : H0.cell? ⟨b1, 0, none⟩ = some (.int .i64 from_)) (h2 : H0.cell? ⟨b2, 0, none⟩ = some (.int .i64 by_)) :
    LeafOK 98 #[.pointer (some ⟨b1, 0, none⟩), .pointer (some ⟨b2, 0, none⟩)] (Tm.shiftF from_ by_) H0 (ShiftL from_ by_) := by
  intro u d ⟨hh, hsz, hdf, hnb⟩
  have hfk : (Tm.shiftF from_ by_ u d).hd6 := by
    unfold Tm.shiftF
    split
    · exact hh
    · exact hh
  have hfs : (Tm.shiftF from_ by_ u d).size = u.size := by
    unfold Tm.shiftF
    split
    · cases u; rfl
    · rfl
  refine ⟨hfk, by omega, fun cs H w hs hA hR => ?_⟩
  have hR' := hR
  obtain ⟨a, cap, rfl, -, -, -, -⟩ := hR.open_
  have c1 := hA.cell (GH.cell?_mono hs h1)
  have c2 := hA.cell (GH.cell?_mono hs h2)
  have l1 := World.block_lt_of_cell? w _ c1
  have l2 := World.block_lt_of_cell? w _ c2
  have hdf' := hdf
  unfold I64 at hdf'
  obtain ⟨d1, d2⟩ := hdf'
  have hw := IntWalk.i64_in (d + from_) (by omega)
  have hRN : ∀ (w1 : World), Pure H w H w1 → (e : Ending) → e = .returned (.agg #[.int .i64 u.k, .string u.s, .int .i64 u.n, .slice a u.l.length cap]) → ¬ (u.k = 3 ∧ d + from_ ≤ u.n) → ∃ H' cs', e = .returned (.agg cs'.toArray) ∧ Pure H w H' w1 ∧ Rep H' (Tm.shiftF from_ by_ u d) cs' := by
    intro w1 hx e he hn
    refine ⟨H, _, he, hx, ?_⟩
    unfold Tm.shiftF
    rw [if_neg hn]
    exact hR'
  have HN := Lib.hid hRN
  clear hRN
  by_cases hk3 : u.k = 3
  · have b3 : (u.k == 3) = true := by rw [beq_iff_eq]; exact hk3
    by_cases hge : d + from_ ≤ u.n
    · have hmv := Lib.hid (fun W hW => term_moved u _ by_ H W hR hW (hnb hk3))
      have hsf : Tm.shiftF from_ by_ u d = Tm.moved u by_ := by unfold Tm.shiftF; rw [if_pos ⟨hk3, hge⟩]
      have HSF := Lib.hid hsf
      clear hsf hk3 hnb
      go_enter Try.func98, Try.ntmps98
      go_wp2_with fail
      refine (hmv.out _ ((hA.alloc _).alloc _)).mono ?_
      rintro e w1 ⟨cs1, rfl, R1, hb1⟩
      have E1 := (((Ext.refl hA).alloc (.cells #[.int .i64 u.k, .string u.s, .int .i64 u.n, .slice a u.l.length cap] 30)).alloc (.cells #[.int .i64 0, .string ⟨#[]⟩, .int .i64 0, .slice none 0 0] 30)).then_below (O := fun _ => False) hb1
      have hn1 : H (w.heap.size + 1) = none := hA.free (by omega)
      obtain ⟨hc1, hf1⟩ := bcell hb1
      generalize hY : Tm.moved u by_ = Y at R1
      have HY := Lib.hid hY
      clear hY
      obtain ⟨ra, rc, rfl, -, -, -, -⟩ := R1.open_
      go_wp2_with fail
      have hE := E1.store4 hn1 (by omega) (.int .i64 Y.k) (.string Y.s) (.int .i64 Y.n) (.slice ra Y.l.length rc)
      refine bodyPost_ret (v := .agg #[.int .i64 Y.k, .string Y.s, .int .i64 Y.n, .slice ra Y.l.length rc]) (by simp [results, Try.results98, go_sem, hc1]) rfl ⟨H, _, rfl, hE, ?_⟩
      rw [HSF.out, HY.out]
      exact R1
    · have HG := Lib.hid (show ¬ (u.k = 3 ∧ d + from_ ≤ u.n) from fun h => hge h.2)
      clear hk3
      go_enter Try.func98, Try.ntmps98
      go_wp2_with fail
      exact bodyPost_ret (v := .agg #[.int .i64 u.k, .string u.s, .int .i64 u.n, .slice a u.l.length cap]) (by simp [results, Try.results98, go_sem]) rfl (HN.out _ (((Ext.refl hA).alloc _).alloc _) _ rfl HG.out)
  · have b3 : (u.k == 3) = false := by rw [beq_eq_false_iff_ne]; exact hk3
    have HG := Lib.hid (show ¬ (u.k = 3 ∧ d + from_ ≤ u.n) from fun h => hk3 h.1)
    clear hk3
    go_enter Try.func98, Try.ntmps98
    go_wp2_with fail
    exact bodyPost_ret (v := .agg #[.int .i64 u.k, .string u.s, .int .i64 u.n, .slice a u.l.length cap]) (by simp [results, Try.results98, go_sem]) rfl (HN.out _ (((Ext.refl hA).alloc _).alloc _) _ rfl HG.out)

theorem gh_box (H : GH) (g : Nat) (v : Value) (T : TypeId) : (H.put g (.cells #[v] T (0, 0))).cell? ⟨g, 0, none⟩ = some v := by simp [GH.cell?, GH.put_same]
theorem gh_cell_put {H : GH} {g : Nat} {o : Obj} {a : Addr} (h : a.block ≠ g) : (H.put g o).cell? a = H.cell? a := by simp [GH.cell?, GH.put_other _ _ h]
set_option maxHeartbeats 1000000 in
/-- term.Shift. -/
theorem term_Shift (t : Tm) (from_ by_ : Int) (cs : List Value) (H : GH) (w : World) (hs : t.shp = true) (hsz : t.size ≤ LB) (hsw : (t.shift from_ by_).size ≤ LB) (hL : ∀ p ∈ t.leaves 0, ShiftL from_ by_ p.1 p.2) (hA : Agree H w) (hR : Rep H t cs) :
    Calls Try.prog 90 #[.agg cs.toArray, .int .i64 from_, .int .i64 by_] w fun e w' => ∃ H' cs', e = .returned (.agg cs'.toArray) ∧ Pure H w H' w' ∧ Rep H' (t.shift from_ by_) cs' := by
  have hn : ∀ k, w.heap.size ≤ k → H k = none := fun k hk => hA.free hk
  have hH1 : Sub H ((H.put (w.heap.size + 1) (.cells #[.int .i64 from_] 3)).put (w.heap.size + 1 + 1) (.cells #[.int .i64 by_] 3)) :=
    (GH.sub_put (hn _ (by omega)) _).trans (GH.sub_put (by rw [GH.put_other _ _ (by omega)]; exact hn _ (by omega)) _)
  have hleaf := shift1_leaf from_ by_ (w.heap.size + 1) (w.heap.size + 1 + 1) ((H.put (w.heap.size + 1) (.cells #[.int .i64 from_] 3)).put (w.heap.size + 1 + 1) (.cells #[.int .i64 by_] 3)) (by rw [gh_cell_put (by simp)]; exact gh_box _ _ _ _) (gh_box _ _ _ _)
  have hlb : LB = 2513169434916 := rfl
  have hwalk := Lib.hid (fun W hA hR => term_walk 98 _ (by intro args w; go_simp) _ _ _ hleaf t 0 cs _ W hs hL (by omega) (by omega) hsz hsw (Sub.refl _) hA hR)
  have HN := Lib.hid hn
  have HR := Lib.hid hR
  clear hn hleaf hlb
  obtain ⟨a, cap, rfl, -, -, -, -⟩ := hR.open_
  go_enter Try.func90, Try.ntmps90
  go_wp2_with fail
  refine (hwalk.out _ ?agr (HR.out.mono hH1)).mono ?_
  case agr => exact (Agree.put ((((hA.alloc _).alloc _).alloc _).alloc _) ((Below.heap_alloc _ _ _ (by simp)).trans ((Below.heap_alloc _ _ _ (by simp)).trans (heap_alloc_at _ _ _ (by simp))))).put ((Below.heap_alloc _ _ _ (by simp)).trans (heap_alloc_at _ _ _ (by simp)))
  rintro e w1 ⟨H2, cs2, rfl, X, R2⟩
  have E0 : Pure H w H _ := ((((Ext.refl hA).alloc (.cells #[.int .i64 t.k, .string t.s, .int .i64 t.n, .slice a t.l.length cap] 30)).alloc (.cells #[.int .i64 from_] 3)).alloc (.cells #[.int .i64 by_] 3)).alloc (.cells #[.int .i64 0, .string ⟨#[]⟩, .int .i64 0, .slice none 0 0] 30)
  have E1 := (((E0.put (g := w.heap.size + 1) ((Below.heap_alloc _ _ _ (by simp)).trans ((Below.heap_alloc _ _ _ (by simp)).trans (heap_alloc_at _ _ _ (by simp)))) (HN.out _ (by omega)) (by omega)).put (g := w.heap.size + 1 + 1) ((Below.heap_alloc _ _ _ (by simp)).trans (heap_alloc_at _ _ _ (by simp))) (by rw [GH.put_other _ _ (by omega)]; exact HN.out _ (by omega)) (by omega)).then X)
  have hn3 : H2 (w.heap.size + 1 + 1 + 1) = none := by
    rw [X.old _ (by simp), GH.put_other _ _ (by omega), GH.put_other _ _ (by omega)]
    exact HN.out _ (by omega)
  obtain ⟨hc1, hf1⟩ := bcell X.below
  generalize hY : Tm.walk (Tm.shiftF from_ by_) t 0 = Y at R2
  have HY := Lib.hid (show t.shift from_ by_ = Y from hY)
  clear hY hwalk
  obtain ⟨ra, rc, rfl, -, -, -, -⟩ := R2.open_
  go_wp2_with fail
  have hE := E1.store4 hn3 (by omega) (.int .i64 Y.k) (.string Y.s) (.int .i64 Y.n) (.slice ra Y.l.length rc)
  refine bodyPost_ret (v := .agg #[.int .i64 Y.k, .string Y.s, .int .i64 Y.n, .slice ra Y.l.length rc]) (by simp [results, Try.results90, go_sem, hc1]) rfl ⟨H2, _, rfl, hE, ?_⟩
  rw [HY.out]
  exact R2
end Go.Proofs.Ytbdappbmlnpogaa
namespace Go.Proofs.Ytbdappbmlnpogaa
open Go Go.Proofs Go.RowKit
set_option maxRecDepth 100000
theorem moved_size (u : Tm) (b : Int) : (Tm.moved u b).size = u.size := by cases u; rfl
theorem shift_hd6 (s : Tm) (a b : Int) (hs : s.shp = true) (hl : ∀ p ∈ s.leaves 0, p.1.hd6) : (s.shift a b).hd6 := by
  refine walk_hd6 _ s 0 hs (fun p hp => ?_)
  have := hl p hp
  unfold Tm.shiftF
  split <;> exact this
def ShiftOK (s : Tm) (a b : Int) : Prop := s.shp = true ∧ s.size ≤ LB ∧ (s.shift a b).size ≤ LB ∧ ∀ p ∈ s.leaves 0, ShiftL a b p.1 p.2
/-- What is asked of a leaf that is looked at. -/
def SubstL (i : Int) (s u : Tm) (d : Int) : Prop := u.hd6 ∧ u.size ≤ LB ∧ I64 (d + i) ∧ (u.k = 3 → I64 (u.n + -1)) ∧ (u.k = 3 → u.n = d + i → ShiftOK s 0 d)
set_option maxHeartbeats 1000000 in
theorem subst1_leaf (i : Int) (s : Tm) (b1 b2 : Nat) (scs : List Value) (H0 : GH) (h1 : H0.cell? ⟨b1, 0, none⟩ = some (.int .i64 i)) (h2 : ∀ j v, scs[j]? = some v → H0.cell? ⟨b2, j, none⟩ = some v) (hRs : Rep H0 s scs) :
    LeafOK 105 #[.pointer (some ⟨b1, 0, none⟩), .pointer (some ⟨b2, 0, none⟩)] (Tm.substF i s) H0 (SubstL i s) := by
  intro u d ⟨hh, hsz, hdf, hnb, hsk⟩
  have hres : (Tm.substF i s u d).hd6 ∧ (Tm.substF i s u d).size ≤ LB := by
    unfold Tm.substF
    split
    · exact ⟨hh, hsz⟩
    · rename_i h0
      split
      · rename_i h3
        have hk : u.k = 3 := by
          rcases Decidable.em (u.k = 3) with h | h
          · exact h
          · exact absurd (.inl h) h0
        obtain ⟨g1, g2, g3, g4⟩ := hsk hk h3
        exact ⟨shift_hd6 s 0 d g1 (fun p hp => (g4 p hp).1), g3⟩
      · exact ⟨hh, by rw [moved_size]; exact hsz⟩
  refine ⟨hres.1, hres.2, fun cs H w hs hA hR => ?_⟩
  clear hres
  have hR' := hR
  obtain ⟨a, cap, rfl, -, -, -, -⟩ := hR.open_
  have hRs' := hRs.mono hs
  obtain ⟨sa, sc, rfl, -, -, -, -⟩ := hRs.open_
  have c1 := hA.cell (GH.cell?_mono hs h1)
  have e0 := hA.cell (GH.cell?_mono hs (h2 0 _ rfl))
  have e1 := hA.cell (GH.cell?_mono hs (h2 1 _ rfl))
  have e2 := hA.cell (GH.cell?_mono hs (h2 2 _ rfl))
  have e3 := hA.cell (GH.cell?_mono hs (h2 3 _ rfl))
  have l1 := World.block_lt_of_cell? w _ c1
  have l2 := World.block_lt_of_cell? w _ e0
  clear h1 h2
  have hdf' := hdf
  unfold I64 at hdf'
  obtain ⟨d1, d2⟩ := hdf'
  have hw := IntWalk.i64_in (d + i) (by omega)
  have hRN : ∀ (w1 : World), Pure H w H w1 → (e : Ending) → e = .returned (.agg #[.int .i64 u.k, .string u.s, .int .i64 u.n, .slice a u.l.length cap]) → (u.k ≠ 3 ∨ u.n < d + i) → ∃ H' cs', e = .returned (.agg cs'.toArray) ∧ Pure H w H' w1 ∧ Rep H' (Tm.substF i s u d) cs' := by
    intro w1 hx e he hn
    refine ⟨H, _, he, hx, ?_⟩
    unfold Tm.substF
    rw [if_pos hn]
    exact hR'
  have HN := Lib.hid hRN
  clear hRN
  by_cases hk3 : u.k = 3
  · have b3 : (u.k != 3) = false := by rw [bne_eq_false_iff_eq]; exact hk3
    by_cases hlt : u.n < d + i
    · have HG := Lib.hid (show u.k ≠ 3 ∨ u.n < d + i from .inr hlt)
      clear hk3
      go_enter Try.func105, Try.ntmps105
      go_wp2_with fail
      exact bodyPost_ret (v := .agg #[.int .i64 u.k, .string u.s, .int .i64 u.n, .slice a u.l.length cap]) (by simp [results, Try.results105, go_sem]) rfl (HN.out _ (((Ext.refl hA).alloc _).alloc _) _ rfl HG.out)
    · by_cases heq : u.n = d + i
      · have hb : (u.n == d + i) = true := by rw [beq_iff_eq]; exact heq
        obtain ⟨g1, g2, g3, g4⟩ := hsk hk3 heq
        have hsf : Tm.substF i s u d = s.shift 0 d := by
          unfold Tm.substF
          rw [if_neg (fun h => h.elim (fun h => h hk3) hlt), if_pos heq]
        have hsh := Lib.hid (fun W hW => term_Shift s 0 d _ H W g1 g2 g3 g4 hW hRs')
        have HSF := Lib.hid hsf
        clear hsf hk3 heq hsk hnb g4
        go_enter Try.func105, Try.ntmps105
        go_wp2_with fail
        refine (hsh.out _ ((hA.alloc _).alloc _)).mono ?_
        rintro e w1 ⟨H2, cs2, rfl, X, R1⟩
        have E1 := (((Ext.refl hA).alloc (.cells #[.int .i64 u.k, .string u.s, .int .i64 u.n, .slice a u.l.length cap] 30)).alloc (.cells #[.int .i64 0, .string ⟨#[]⟩, .int .i64 0, .slice none 0 0] 30)).then (O := fun _ => False) X
        have hn1 : H2 (w.heap.size + 1) = none := (X.old _ (by simp)).trans (hA.free (by omega))
        obtain ⟨hc1, hf1⟩ := bcell X.below
        generalize hY : s.shift 0 d = Y at R1
        have HY := Lib.hid hY
        clear hY hsh
        obtain ⟨ra, rc, rfl, -, -, -, -⟩ := R1.open_
        go_wp2_with fail
        have hE := E1.store4 hn1 (by omega) (.int .i64 Y.k) (.string Y.s) (.int .i64 Y.n) (.slice ra Y.l.length rc)
        refine bodyPost_ret (v := .agg #[.int .i64 Y.k, .string Y.s, .int .i64 Y.n, .slice ra Y.l.length rc]) (by simp [results, Try.results105, go_sem, hc1]) rfl ⟨H2, _, rfl, hE, ?_⟩
        rw [HSF.out, HY.out]
        exact R1
      · have hb : (u.n == d + i) = false := by rw [beq_eq_false_iff_ne]; exact heq
        have hmv := Lib.hid (fun W hW => term_moved u _ (-1) H W hR hW (hnb hk3))
        have hsf : Tm.substF i s u d = Tm.moved u (-1) := by
          unfold Tm.substF
          rw [if_neg (fun h => h.elim (fun h => h hk3) hlt), if_neg heq]
        have HSF := Lib.hid hsf
        clear hsf hk3 heq hsk hnb
        go_enter Try.func105, Try.ntmps105
        go_wp2_with fail
        refine (hmv.out _ ((hA.alloc _).alloc _)).mono ?_
        rintro e w1 ⟨cs1, rfl, R1, hb1⟩
        have E1 := (((Ext.refl hA).alloc (.cells #[.int .i64 u.k, .string u.s, .int .i64 u.n, .slice a u.l.length cap] 30)).alloc (.cells #[.int .i64 0, .string ⟨#[]⟩, .int .i64 0, .slice none 0 0] 30)).then_below (O := fun _ => False) hb1
        have hn1 : H (w.heap.size + 1) = none := hA.free (by omega)
        obtain ⟨hc1, hf1⟩ := bcell hb1
        generalize hY : Tm.moved u (-1) = Y at R1
        have HY := Lib.hid hY
        clear hY hmv
        obtain ⟨ra, rc, rfl, -, -, -, -⟩ := R1.open_
        go_wp2_with fail
        have hE := E1.store4 hn1 (by omega) (.int .i64 Y.k) (.string Y.s) (.int .i64 Y.n) (.slice ra Y.l.length rc)
        refine bodyPost_ret (v := .agg #[.int .i64 Y.k, .string Y.s, .int .i64 Y.n, .slice ra Y.l.length rc]) (by simp [results, Try.results105, go_sem, hc1]) rfl ⟨H, _, rfl, hE, ?_⟩
        rw [HSF.out, HY.out]
        exact R1
  · have b3 : (u.k != 3) = true := by rw [bne_iff_ne]; exact hk3
    have HG := Lib.hid (show u.k ≠ 3 ∨ u.n < d + i from .inl hk3)
    clear hk3
    go_enter Try.func105, Try.ntmps105
    go_wp2_with fail
    exact bodyPost_ret (v := .agg #[.int .i64 u.k, .string u.s, .int .i64 u.n, .slice a u.l.length cap]) (by simp [results, Try.results105, go_sem]) rfl (HN.out _ (((Ext.refl hA).alloc _).alloc _) _ rfl HG.out)
set_option maxHeartbeats 1000000 in
/-- term.Subst. -/
theorem term_Subst (t : Tm) (i : Int) (s : Tm) (cs scs : List Value) (H : GH) (w : World) (hs : t.shp = true) (hsz : t.size ≤ LB) (hsw : (t.subst i s).size ≤ LB) (hL : ∀ p ∈ t.leaves 0, SubstL i s p.1 p.2) (hA : Agree H w) (hR : Rep H t cs) (hRs : Rep H s scs) :
    Calls Try.prog 104 #[.agg cs.toArray, .int .i64 i, .agg scs.toArray] w fun e w' => ∃ H' cs', e = .returned (.agg cs'.toArray) ∧ Pure H w H' w' ∧ Rep H' (t.subst i s) cs' := by
  have hn : ∀ k, w.heap.size ≤ k → H k = none := fun k hk => hA.free hk
  have hH1 : Sub H ((H.put (w.heap.size + 1) (.cells #[.int .i64 i] 3)).put (w.heap.size + 1 + 1) (.cells scs.toArray 30)) :=
    (GH.sub_put (hn _ (by omega)) _).trans (GH.sub_put (by rw [GH.put_other _ _ (by omega)]; exact hn _ (by omega)) _)
  have hleaf := subst1_leaf i s (w.heap.size + 1) (w.heap.size + 1 + 1) scs ((H.put (w.heap.size + 1) (.cells #[.int .i64 i] 3)).put (w.heap.size + 1 + 1) (.cells scs.toArray 30)) (by rw [gh_cell_put (by simp)]; exact gh_box _ _ _ _) (fun j v hv => by simpa [GH.cell?, GH.put_same] using hv) (hRs.mono hH1)
  have hlb : LB = 2513169434916 := rfl
  have hwalk := Lib.hid (fun W hA hR => term_walk 105 _ (by intro args w; go_simp) _ _ _ hleaf t 0 cs _ W hs hL (by omega) (by omega) hsz hsw (Sub.refl _) hA hR)
  have HN := Lib.hid hn
  have HR := Lib.hid hR
  clear hn hleaf hlb
  obtain ⟨a, cap, rfl, -, -, -, -⟩ := hR.open_
  obtain ⟨sa, sc, rfl, -, -, -, -⟩ := hRs.open_
  go_enter Try.func104, Try.ntmps104
  go_wp2_with fail
  refine (hwalk.out _ ?agr (HR.out.mono hH1)).mono ?_
  case agr => exact (Agree.put ((((hA.alloc _).alloc _).alloc _).alloc _) ((Below.heap_alloc _ _ _ (by simp)).trans ((Below.heap_alloc _ _ _ (by simp)).trans (heap_alloc_at _ _ _ (by simp))))).put ((Below.heap_alloc _ _ _ (by simp)).trans (heap_alloc_at _ _ _ (by simp)))
  rintro e w1 ⟨H2, cs2, rfl, X, R2⟩
  have E0 : Pure H w H _ := ((((Ext.refl hA).alloc (.cells #[.int .i64 t.k, .string t.s, .int .i64 t.n, .slice a t.l.length cap] 30)).alloc (.cells #[.int .i64 i] 3)).alloc (.cells #[.int .i64 s.k, .string s.s, .int .i64 s.n, .slice sa s.l.length sc] 30)).alloc (.cells #[.int .i64 0, .string ⟨#[]⟩, .int .i64 0, .slice none 0 0] 30)
  have E1 := (((E0.put (g := w.heap.size + 1) ((Below.heap_alloc _ _ _ (by simp)).trans ((Below.heap_alloc _ _ _ (by simp)).trans (heap_alloc_at _ _ _ (by simp)))) (HN.out _ (by omega)) (by omega)).put (g := w.heap.size + 1 + 1) ((Below.heap_alloc _ _ _ (by simp)).trans (heap_alloc_at _ _ _ (by simp))) (by rw [GH.put_other _ _ (by omega)]; exact HN.out _ (by omega)) (by omega)).then X)
  have hn3 : H2 (w.heap.size + 1 + 1 + 1) = none := by
    rw [X.old _ (by simp), GH.put_other _ _ (by omega), GH.put_other _ _ (by omega)]
    exact HN.out _ (by omega)
  obtain ⟨hc1, hf1⟩ := bcell X.below
  generalize hY : Tm.walk (Tm.substF i s) t 0 = Y at R2
  have HY := Lib.hid (show t.subst i s = Y from hY)
  clear hY hwalk
  obtain ⟨ra, rc, rfl, -, -, -, -⟩ := R2.open_
  go_wp2_with fail
  have hE := E1.store4 hn3 (by omega) (.int .i64 Y.k) (.string Y.s) (.int .i64 Y.n) (.slice ra Y.l.length rc)
  refine bodyPost_ret (v := .agg #[.int .i64 Y.k, .string Y.s, .int .i64 Y.n, .slice ra Y.l.length rc]) (by simp [results, Try.results104, go_sem, hc1]) rfl ⟨H2, _, rfl, hE, ?_⟩
  rw [HY.out]
  exact R2
end Go.Proofs.Ytbdappbmlnpogaa
namespace Go.Proofs.Ytbdappbmlnpogaa
open Go Go.Proofs Go.RowKit
set_option maxRecDepth 100000
def TellPost (B : Nat) (I : List (Tm × Int) → GH → World → Prop) (L : List (Tm × Int)) (H : GH) (w : World) (e : Ending) (w' : World) : Prop :=
  e = .returned noResult ∧ ∃ H', I L H' w' ∧ Ext (fun k => B ≤ k) H w H' w'
/-- What a function that is told leaves comes to: I says what holds when some were told; blocks from B on may be written. -/
def TellOK (g : FuncId) (caps : Array Value) (B N : Nat) (I : List (Tm × Int) → GH → World → Prop) (Q : Tm → Int → Prop) : Prop :=
  (∀ L H w w', I L H w → Below w.heap.size w w' → I L H w') ∧
  ∀ L u d cs H w, Q u d → L.length < N → I L H w → Agree H w → B ≤ w.heap.size → Rep H u cs →
    Calls Try.prog g (#[.agg cs.toArray, .int .i64 d] ++ caps) w (TellPost B I (L ++ [(u, d)]) H w)
def EachRel (B : Nat) (I : List (Tm × Int) → GH → World → Prop) (H : GH) (w : World) (L : List (Tm × Int)) (l : List Tm) (d : Int) (i : Value) (wr : World) : Prop :=
  ∃ (j : Nat) (Hc : GH), j ≤ l.length ∧ i = .int .i64 j ∧ Ext (fun k => B ≤ k) H w Hc wr ∧ I (L ++ Tm.leavesL (l.take j) d) Hc wr
theorem leavesL_take (l : List Tm) (d : Int) (j : Nat) (x : Tm) (h : l[j]? = some x) : Tm.leavesL (l.take (j + 1)) d = Tm.leavesL (l.take j) d ++ x.leaves d := by
  have hap : ∀ a b : List Tm, Tm.leavesL (a ++ b) d = Tm.leavesL a d ++ Tm.leavesL b d := by
    intro a b
    induction a with
    | nil => rw [List.nil_append, Tm.leavesL, List.nil_append]
    | cons x xs ih => rw [List.cons_append, Tm.leavesL, Tm.leavesL, ih, List.append_assoc]
  rw [List.take_add_one, h, hap]
  show _ ++ Tm.leavesL [x] d = _
  rw [Tm.leavesL, Tm.leavesL, List.append_nil]
theorem leavesL_take_le (l : List Tm) (d : Int) (j : Nat) : (Tm.leavesL (l.take j) d).length ≤ (Tm.leavesL l d).length := by
  have hap : ∀ a b : List Tm, Tm.leavesL (a ++ b) d = Tm.leavesL a d ++ Tm.leavesL b d := by
    intro a b
    induction a with
    | nil => rw [List.nil_append, Tm.leavesL, List.nil_append]
    | cons x xs ih => rw [List.cons_append, Tm.leavesL, Tm.leavesL, ih, List.append_assoc]
  have h := hap (l.take j) (l.drop j)
  rw [List.take_append_drop] at h
  rw [h, List.length_append]; omega
theorem leavesL_length (D : Int) (l : List Tm) (ih : ∀ t ∈ l, ∀ d, (t.leaves d).length ≤ t.size) : (Tm.leavesL l D).length ≤ Tm.sizeL l := by
  induction l with
  | nil => rw [Tm.leavesL]; simp
  | cons x xs ihx =>
    rw [Tm.leavesL, List.length_append, Tm.sizeL_cons]
    have h1 := ih x (by simp) D
    have h2 := ihx (fun t ht d => ih t (by simp [ht]) d)
    omega
theorem leaves_length (t : Tm) (d : Int) : (t.leaves d).length ≤ t.size := by
  induction t using Tm.ind generalizing d with
  | h k s n l ih =>
    rw [Tm.leaves, Tm.size_mk]
    split
    · have := leavesL_length (d + if k = 5 then 1 else 0) l ih
      omega
    · simp
set_option maxHeartbeats 2000000 in
theorem term_each (g : FuncId) (caps : Array Value) (eg : ∀ args w, (callFunc g args).run Try.prog w = .ok (.enter g args) w) (B N : Nat) (I : List (Tm × Int) → GH → World → Prop) (Q : Tm → Int → Prop) (hT : TellOK g caps B N I Q) (t : Tm) :
    ∀ (d : Int) (L : List (Tm × Int)) (cs : List Value) (H : GH) (w : World), (∀ p ∈ t.leaves d, Q p.1 p.2) → 0 ≤ d → d + t.size ≤ 4611686018427387904 → L.length + (t.leaves d).length ≤ N → I L H w → Agree H w → B ≤ w.heap.size → Rep H t cs →
    Calls Try.prog 37 #[.agg cs.toArray, .int .i64 d, .func (.func g) #[] caps] w (TellPost B I (L ++ t.leaves d) H w) := by
  induction t using Tm.ind with
  | h k s n l ih =>
    intro d L cs H w hQ hd0 hd1 hN hI hA hB hR
    by_cases hk : k = 5 ∨ k = 6
    · have hlv : (Tm.mk k s n l).leaves d = Tm.leavesL l (d + if k = 5 then 1 else 0) := by rw [Tm.leaves, if_pos hk]
      have hLu : ∀ u ∈ l, ∀ p ∈ u.leaves (d + if k = 5 then 1 else 0), Q p.1 p.2 := fun u hu p hp => hQ p (by rw [hlv]; exact leaves_of_mem hu _ hp)
      have hwi := Lib.hid (fun W => term_within (.mk k s n l) cs H W hR)
      have hkk : (Tm.mk k s n l).kids = l := by unfold Tm.kids; exact if_pos hk
      have hbb : (Tm.mk k s n l).by_ = (if k = 5 then 1 else 0) := rfl
      rw [hkk, hbb] at hwi
      rw [hlv] at hN ⊢
      rw [Tm.size_mk] at hd1
      have hlen := Tm.length_le_sizeL l
      have hbD : ∃ b : Int, (if k = 5 then 1 else 0) = b ∧ 0 ≤ b ∧ b ≤ 1 := ⟨_, rfl, by split <;> simp, by split <;> simp⟩
      obtain ⟨by_, hby, hbl0, hbl1⟩ := hbD
      rw [hby] at hwi hLu hN ⊢
      have ih' := Lib.hid (fun u hu => ih u hu (d + by_))
      clear hby hbb hkk hlv ih hQ
      obtain ⟨a, cap, rfl, -, -, -, hl⟩ := hR.open_
      simp only [Tm.k_mk, Tm.s_mk, Tm.n_mk, Tm.l_mk] at *
      have hko : ((k == 5) = true ∧ (k != 5) = false) ∨ ((k == 5) = false ∧ (k != 5) = true ∧ (k != 6) = false) := by
        rcases hk with h | h <;> subst h <;> simp
      have hd2 : d ≤ 4611686018427387904 := by omega
      have HI := Lib.hid hI
      have HT := Lib.hid hT
      have HLU := Lib.hid hLu
      clear hk hR hI hT hLu
      rcases hko with ⟨b1, b2⟩ | ⟨b1, b2, b3⟩
      all_goals
        go_enter Try.func37, Try.ntmps37
        go_wp2_with fail
        refine (hwi.out _).mono ?_
        rintro e w1 ⟨v, rfl, hTl, hb1⟩
        have hbw1 := (below_alloc _ _).trans (hb1.mono (below_alloc _ _).size)
        obtain ⟨va, vc, rfl, hlc, hvc⟩ := hTl.form
        unfold maxLen at hvc
        go_wp2_with fail
        go_loopw [29] (fun i wr => EachRel B I H w L l (d + by_) i wr) (fun i _ => l.length - (intOf i).toNat)
        case atStart => exact ⟨0, H, Nat.zero_le _, rfl, Ext.of_below hA hbw1, by rw [List.take_zero, Tm.leavesL, List.append_nil]; exact HT.out.1 _ _ _ _ HI.out hbw1⟩
        case round =>
          obtain ⟨j, Hc, hj, rfl, EC, hIc⟩ := hrel
          have HIC := Lib.hid hIc
          clear hIc
          by_cases hlt : j < l.length
          · have hx : l[j]? = some l[j] := List.getElem?_eq_getElem hlt
            obtain ⟨b, o, cs', rfl, hcl, hRu, hcell⟩ := hTl.get hx
            have hsu := Tm.size_le_sizeL (List.getElem_mem hlt)
            have hNj : (L ++ Tm.leavesL (l.take j) (d + by_)).length + (l[j].leaves (d + by_)).length ≤ N := by
              have h1 := leavesL_take_le l (d + by_) (j + 1)
              rw [leavesL_take l _ j _ hx, List.length_append] at h1
              rw [List.length_append]; omega
            have hcall := Lib.hid (fun W hI hW => ih'.out l[j] (List.getElem_mem hlt) (L ++ Tm.leavesL (l.take j) (d + by_)) cs' Hc W (HLU.out _ (List.getElem_mem hlt)) (by omega) (by omega) hNj hI hW)
            have HX := Lib.hid hx
            have HRU := Lib.hid (hRu.mono EC.sub)
            obtain ⟨ua, uc, rfl, -, -, -, -⟩ := hRu.open_
            have c0 := EC.agree.cell (GH.cell?_mono EC.sub (hcell 0 _ rfl))
            have c1 := EC.agree.cell (GH.cell?_mono EC.sub (hcell 1 _ rfl))
            have c2 := EC.agree.cell (GH.cell?_mono EC.sub (hcell 2 _ rfl))
            have c3 := EC.agree.cell (GH.cell?_mono EC.sub (hcell 3 _ rfl))
            simp only [Nat.add_zero, ← Nat.add_assoc] at c0 c1 c2 c3
            have hbl := World.block_lt_of_cell? wr _ c0
            clear hx hcell hcl hRu hNj
            go_wp2_with fail
            refine (hcall.out _ (HT.out.1 _ _ _ _ HIC.out (below_alloc _ _)) (EC.agree.alloc _) (Nat.le_trans hB (Nat.le_trans EC.size (by simp))) HRU.out).mono ?_
            rintro e w2 ⟨rfl, H2, hI2, X2⟩
            have E2 := (EC.alloc (.cells #[.int .i64 l[j].k, .string l[j].s, .int .i64 l[j].n, .slice ua l[j].l.length uc] 30)).trans X2 (fun k hk _ => hk)
            have HI2 := Lib.hid hI2
            clear hI2 X2 hcall
            go_wp2_with fail
            go_roundw
            case rel => exact ⟨j + 1, H2, by omega, by go_num, E2, by rw [leavesL_take l _ j _ HX.out, ← List.append_assoc]; exact HI2.out⟩
            case measure => simp [intOf]; omega
          · have hjl : j = l.length := by omega
            have HJ := Lib.hid hjl
            clear hjl
            go_wp2_with fail
            go_end0
            exact ⟨rfl, Hc, by have := HIC.out; rw [HJ.out, List.take_length] at this; exact this, EC⟩
    · have hlv : (Tm.mk k s n l).leaves d = [(.mk k s n l, d)] := by rw [Tm.leaves, if_neg hk]
      rw [hlv] at hQ hN ⊢
      have hcall := Lib.hid (fun W hI hW => hT.2 L (.mk k s n l) d cs H W (hQ (.mk k s n l, d) (by simp)) (by simp at hN; omega) hI hW)
      have HI := Lib.hid hI
      have HT := Lib.hid hT
      have HR := Lib.hid hR
      have b5 : (k != 5) = true := by rw [bne_iff_ne]; exact fun h => hk (.inl h)
      have b6 : (k != 6) = true := by rw [bne_iff_ne]; exact fun h => hk (.inr h)
      obtain ⟨a, cap, rfl, -, -, -, hl⟩ := hR.open_
      simp only [Tm.k_mk, Tm.s_mk, Tm.n_mk, Tm.l_mk] at *
      clear hk hI hT hR ih hQ
      go_enter Try.func37, Try.ntmps37
      go_wp2_with fail
      refine (hcall.out _ (HT.out.1 _ _ _ _ HI.out (below_alloc _ _)) (hA.alloc _) (Nat.le_trans hB (by simp)) HR.out).mono ?_
      rintro e w2 ⟨rfl, H2, hI2, X2⟩
      have E2 := ((Ext.refl hA).alloc (.cells #[.int .i64 k, .string s, .int .i64 n, .slice a l.length cap] 30)).trans X2 (fun k hk _ => hk)
      have HI2 := Lib.hid hI2
      clear hI2 X2 hcall
      go_wp2_with fail
      refine bodyPost_ret (results_none rfl _ _ _) rfl ⟨rfl, H2, HI2.out, E2⟩

/-! ### Loose -/
def LooseI (b : Nat) (L : List (Tm × Int)) (H : GH) (w : World) : Prop :=
  w.heap[b]? = some (.cells #[.int .i64 (L.foldl Tm.looseStep 0)] 3 (0, 0)) ∧ H b = none ∧ 0 ≤ L.foldl Tm.looseStep 0 ∧ L.foldl Tm.looseStep 0 ≤ 4611686018427387905
def LooseQ (u : Tm) (d : Int) : Prop := (u.k = 3 → 0 ≤ u.n ∧ u.n ≤ 4611686018427387904) ∧ 0 ≤ d ∧ d ≤ 4611686018427387904
theorem cell_lt {w : World} {b : Nat} {o : Obj} (h : w.heap[b]? = some o) : b < w.heap.size := (Array.getElem?_eq_some_iff.1 h).1
theorem blk_cell {w : World} {b : Nat} {v : Value} {T : TypeId} (h : w.heap[b]? = some (.cells #[v] T (0, 0))) : w.cell? ⟨b, 0, none⟩ = some v ∧ w.frozen? ⟨b, 0, none⟩ = false := by
  simp [World.cell?, World.frozen?, h]
theorem blk_set {w : World} {b : Nat} {v u : Value} {T : TypeId} (h : w.heap[b]? = some (.cells #[v] T (0, 0))) : (w.setCell ⟨b, 0, none⟩ u).heap[b]? = some (.cells #[u] T (0, 0)) := by
  simp [World.setCell, Array.getElem?_modify, h]
theorem loose_tell (b B N : Nat) (hbB : B ≤ b) : TellOK 74 #[.pointer (some ⟨b, 0, none⟩)] B N (LooseI b) LooseQ := by
  refine ⟨fun L H w w' ⟨h1, h2, h3⟩ hb => ⟨(hb.block b (cell_lt h1)).trans h1, h2, h3⟩, fun L u d cs H w ⟨hq, hd0, hd1⟩ _ ⟨h1, h2, h3, h4⟩ hA hB hR => ?_⟩
  obtain ⟨a, cap, rfl, -, -, -, -⟩ := hR.open_
  have hst : (L ++ [(u, d)]).foldl Tm.looseStep 0 = Tm.looseStep (L.foldl Tm.looseStep 0) (u, d) := by rw [List.foldl_append]; rfl
  have hlt := cell_lt h1
  have hpost : ∀ (V : Int), V = Tm.looseStep (L.foldl Tm.looseStep 0) (u, d) → 0 ≤ V → V ≤ 4611686018427387905 → ∀ w', w'.heap[b]? = some (.cells #[.int .i64 V] 3 (0, 0)) → Ext (fun k => B ≤ k) H w H w' → TellPost B (LooseI b) (L ++ [(u, d)]) H w (.returned noResult) w' := by
    intro V hV h0 h5 w' hw hx
    rw [← hst] at hV
    subst hV
    exact ⟨rfl, H, ⟨hw, h2, h0, h5⟩, hx⟩
  have HP := Lib.hid hpost
  have HH1 := Lib.hid h1
  generalize L.foldl Tm.looseStep 0 = acc at *
  obtain ⟨q0, q1⟩ := blk_cell h1
  clear hst h1 hpost
  by_cases hk : u.k = 3
  · have hb3 : (u.k == 3) = true := by rw [beq_iff_eq]; exact hk
    obtain ⟨n0, n1⟩ := hq hk
    have hs : Tm.looseStep acc (u, d) = max acc (u.n - d + 1) := by unfold Tm.looseStep; rw [if_pos hk]
    have hw1 := IntWalk.i64_in (u.n - d) (by omega)
    have hw2 := IntWalk.i64_in (u.n - d + 1) (by omega)
    have hE := fun (v : Value) => ((Ext.refl (O := fun k => B ≤ k) hA).setCell (p := ⟨b, 0, none⟩) h2 (fun _ => hbB) v).alloc (.cells #[.int .i64 u.k, .string u.s, .int .i64 u.n, .slice a u.l.length cap] 30)
    have hS := fun (v : Value) => (Below.heap_alloc (w.setCell ⟨b, 0, none⟩ v) (.cells #[.int .i64 u.k, .string u.s, .int .i64 u.n, .slice a u.l.length cap] 30) b (by simpa [World.setCell] using hlt)).trans (blk_set (u := v) HH1.out)
    have HHE := Lib.hid hE
    have HHS := Lib.hid hS
    have HSS := Lib.hid hs
    clear hs hk hq hE hS
    go_enter Try.func74, Try.ntmps74
    go_wp2_with fail
    all_goals
      go_end0
      exact HP.out _ (by rw [HSS.out]; omega) (by omega) (by omega) _ (HHS.out _) (HHE.out _)
  · have hb3 : (u.k == 3) = false := by rw [beq_eq_false_iff_ne]; exact hk
    have hs : Tm.looseStep acc (u, d) = acc := by unfold Tm.looseStep; rw [if_neg hk]
    have HSS := Lib.hid hs
    clear hs hk hq
    go_enter Try.func74, Try.ntmps74
    go_wp2_with fail
    go_end0
    exact HP.out _ HSS.out.symm h3 h4 _ ((Below.heap_alloc _ _ _ hlt).trans HH1.out) ((Ext.refl hA).alloc _)
/-- term.Loose. -/
theorem term_Loose (t : Tm) (cs : List Value) (H : GH) (w : World) (hQ : ∀ p ∈ t.leaves 0, LooseQ p.1 p.2) (hsz : t.size ≤ LB) (hA : Agree H w) (hR : Rep H t cs) :
    Calls Try.prog 55 #[.agg cs.toArray] w fun e w' => e = .returned (.int .i64 t.loose) ∧ Below w.heap.size w w' := by
  have hT := loose_tell (w.heap.size + 1) w.heap.size ((t.leaves 0).length) (by omega)
  have hlb : LB = 2513169434916 := rfl
  have hI := Lib.hid (fun W hI hA hB => term_each 74 _ (by intro args w; go_simp) w.heap.size _ _ _ hT t 0 [] cs H W hQ (by omega) (by omega) (by simp) hI hA hB hR)
  have hn := hA.free (k := w.heap.size + 1) (by omega)
  clear hT hlb
  obtain ⟨a, cap, rfl, -, -, -, -⟩ := hR.open_
  go_enter Try.func55, Try.ntmps55
  go_wp2_with fail
  refine (hI.out _ ⟨heap_alloc_at _ _ _ (by simp), hn, by simp, by simp⟩ ((hA.alloc _).alloc _) (by simp; omega)).mono ?_
  rintro e w1 ⟨rfl, H1, ⟨g1, g2, g3, g4⟩, X⟩
  rw [List.nil_append] at g1
  obtain ⟨q0, -⟩ := blk_cell g1
  have hY := Lib.hid (show (t.leaves 0).foldl Tm.looseStep 0 = t.loose from rfl)
  have E1 := (((Ext.refl (O := fun k => w.heap.size ≤ k) hA).alloc (.cells #[.int .i64 t.k, .string t.s, .int .i64 t.n, .slice a t.l.length cap] 30)).alloc (.cells #[.int .i64 0] 3)).trans X (fun k hk _ => hk)
  generalize (t.leaves 0).foldl Tm.looseStep 0 = Y at q0 hY
  clear g1 g3 g4 X hI
  go_wp2_with fail
  go_ret
  exact ⟨by rw [← hY.out]; rfl, E1.os, E1.tape, E1.output, E1.size, fun k hk => E1.block k hk (by omega)⟩
end Go.Proofs.Ytbdappbmlnpogaa
namespace Go.Proofs.Ytbdappbmlnpogaa
open Go Go.Proofs Go.RowKit
set_option maxRecDepth 100000
theorem isSl_ints : IsSl Try.prog 48 3 1 8 := isSl_of (z := .int .i64 0) Try.underlying48 (by kernel_rfl) rfl (by decide)
/-- A slice of whole numbers that is read. -/
def RdI (w : World) (v : Value) (xs : List Int) : Prop :=
  ∃ a cap, v = .slice a xs.length cap ∧ xs.length ≤ cap ∧ cap ≤ maxLen ∧ ∀ (i : Nat) (x : Int), xs[i]? = some x → ∃ b o, a = some ⟨b, o, none⟩ ∧ w.cell? ⟨b, o + i, none⟩ = some (.int .i64 x)
/-- The cells of a whole number. -/
def IntP (n : Int) (cs : List Value) : Prop := cs = [.int .i64 n] ∧ I64 n
theorem IntP.one {n : Int} {cs : List Value} (h : IntP n cs) : ∀ u ∈ cs, u.oneCell' = true := by
  rw [h.1]; intro u hu; rw [List.mem_singleton.1 hu]; rfl
abbrev Ints (H : GH) (v : Value) (xs : List Int) : Prop := Sl H 1 IntP v xs
theorem Ints.rd {H : GH} {w : World} {v : Value} {xs : List Int} (h : Ints H v xs) (hA : Agree H w) : RdI w v xs := by
  obtain ⟨a, cap, rfl, hl, hc⟩ := h.form
  refine ⟨a, cap, rfl, hl, hc, fun i x hi => ?_⟩
  obtain ⟨b, o, cs, ha, -, ⟨rfl, -⟩, hcell⟩ := h.get hi
  exact ⟨b, o, ha, by simpa using hA.cell (hcell 0 _ rfl)⟩
theorem Own.rdi {H : GH} {w : World} {base : Nat} {v : Value} {xs : List Int} (h : Own H w base 3 1 IntP v xs) : RdI w v xs := by
  obtain ⟨a, cap, rfl, hl, hc⟩ := h.form
  refine ⟨a, cap, rfl, hl, hc, fun i x hi => ?_⟩
  obtain ⟨C, hr, hf, hx⟩ := h
  rcases hr.2 with ⟨hv, h0⟩ | ⟨g, cp, cur, hv, hb, hh, r⟩
  · have := (List.getElem?_eq_some_iff.1 hi).1; omega
  · injection hv with h1 h2 h3
    subst h1; subst h3
    refine ⟨g, 0, rfl, ?_⟩
    obtain ⟨hcs, -⟩ := hx i x hi
    have hci : C[i]? = some (.int .i64 x) := by
      have : ((C.drop (i * 1)).take 1)[0]? = some (.int .i64 x) := by rw [hcs]; rfl
      rw [List.getElem?_take, if_pos (by omega), List.getElem?_drop] at this
      simpa using this
    have := hr.cells (g := g) rfl i _ hci
    rw [Addr.add_lit] at this
    exact this
theorem slices_Index_int (w : World) (v : Value) (xs : List Int) (n : Int) (h : RdI w v xs) :
    Calls Try.prog 64 #[v, .int .i64 n] w fun e w' => e = .returned (.int .i64 (idx (fun x => n == x) xs 0)) ∧ w' = w := by
  obtain ⟨a, cap, rfl, hl, hc, hcell⟩ := h
  unfold maxLen at hc
  go_enter Try.func64, Try.ntmps64
  go_wp2
  go_loop [8] (fun i => ∃ k : Nat, k ≤ xs.length ∧ i = .int .i64 k ∧ Hid (∀ (j : Nat) (y : Int), j < k → xs[j]? = some y → (n == y) = false)) (fun i => xs.length - (intOf i).toNat)
  case atStart => exact ⟨0, Nat.zero_le _, rfl, fun j y hj => absurd hj (by omega)⟩
  case round =>
    obtain ⟨k, hk, rfl, hn⟩ := hrel
    by_cases hlt : k < xs.length
    · obtain ⟨x, hx⟩ : ∃ x, xs[k]? = some x := ⟨_, List.getElem?_eq_getElem hlt⟩
      obtain ⟨b, o, rfl, c0⟩ := hcell k x hx
      have HX := Lib.hid hx
      have HCC := Lib.hid hcell
      clear hx hcell
      cases hq : (n == x) with
      | true =>
        go_wp2_with fail
        go_ret
        refine ⟨?_, rfl⟩
        rw [idx_hit _ xs k 0 _ HX.out hq hn.out, Int.zero_add]
        rfl
      | false =>
        go_wp2_with fail
        go_round
        case rel =>
          refine ⟨k + 1, by omega, by go_num, fun j y hj hy => ?_⟩
          by_cases e : j = k
          · subst e
            rw [HX.out] at hy
            injection hy with hy
            subst hy
            exact hq
          · exact hn.out j y (by omega) hy
        case measure => simp [intOf]; omega
    · have HCC := Lib.hid hcell
      clear hcell
      go_wp2
      go_ret
      refine ⟨?_, rfl⟩
      rw [idx_miss _ xs 0 (fun j y hy => hn.out j y (by have := (List.getElem?_eq_some_iff.1 hy).1; omega) hy)]
      rfl
theorem slices_Contains_int (w : World) (v : Value) (xs : List Int) (n : Int) (h : RdI w v xs) :
    Calls Try.prog 39 #[v, .int .i64 n] w fun e w' => e = .returned (.bool (decide (n ∈ xs))) ∧ w' = w := by
  have h1 := Lib.hid (slices_Index_int w v xs n h)
  have h2 := Lib.hid (idx_any (fun x => n == x) xs)
  clear h
  go_enter Try.func39, Try.ntmps39
  go_wp2_with fail
  refine h1.out.mono ?_
  rintro e w' ⟨rfl, rfl⟩
  go_wp2_with fail
  go_ret
  refine ⟨ret_bool ?_, rfl⟩
  have h3 := h2.out
  rw [Bool.eq_iff_iff, decide_eq_true_iff, List.any_eq_true] at h3
  simp only [decide_eq_true_iff]
  constructor
  · intro h
    obtain ⟨x, hx, he⟩ := h3.1 (by simpa using h)
    rw [beq_iff_eq] at he
    rw [he]; exact hx
  · intro h
    have := h3.2 ⟨n, h, by simp⟩
    simpa using this
/-! ### Vars -/
def VarsI (b : Nat) (L : List (Tm × Int)) (H : GH) (w : World) : Prop :=
  ∃ v, w.heap[b]? = some (.cells #[v] 48 (0, 0)) ∧ H b = none ∧ Own H w (b + 1) 3 1 IntP v (L.foldl Tm.varsStep []) ∧ (L.foldl Tm.varsStep []).length ≤ L.length
set_option maxHeartbeats 1000000 in
theorem vars_tell (b B N : Nat) (hN : N ≤ LB) (hbB : B ≤ b) : TellOK 38 #[.pointer (some ⟨b, 0, none⟩)] B N (VarsI b) (fun u _ => I64 u.n) := by
  refine ⟨fun L H w w' ⟨v, h1, h2, h3, h4⟩ hb => ⟨v, (hb.block b (cell_lt h1)).trans h1, h2, h3.below hb, h4⟩, fun L u d cs H w hq hLN ⟨v, h1, h2, h3, h4⟩ hA hB hR => ?_⟩
  obtain ⟨a, cap, rfl, -, -, -, -⟩ := hR.open_
  have hst : (L ++ [(u, d)]).foldl Tm.varsStep [] = Tm.varsStep (L.foldl Tm.varsStep []) (u, d) := by rw [List.foldl_append]; rfl
  have hlt := cell_lt h1
  have hpost : ∀ (V : List Int) (v' : Value), V = Tm.varsStep (L.foldl Tm.varsStep []) (u, d) → V.length ≤ L.length + 1 → ∀ w', w'.heap[b]? = some (.cells #[v'] 48 (0, 0)) → Own H w' (b + 1) 3 1 IntP v' V → Ext (fun k => B ≤ k) H w H w' → TellPost B (VarsI b) (L ++ [(u, d)]) H w (.returned noResult) w' := by
    intro V v' hV h0 w' hw ho hx
    rw [← hst] at hV
    subst hV
    exact ⟨rfl, H, ⟨v', hw, h2, ho, by rw [List.length_append]; exact h0⟩, hx⟩
  have HP := Lib.hid hpost
  have HH1 := Lib.hid h1
  generalize L.foldl Tm.varsStep [] = acc at *
  obtain ⟨q0, q1⟩ := blk_cell h1
  obtain ⟨va, vc, rfl, hvl, hvm⟩ := h3.form
  unfold LB at hN
  have hrd := h3.rdi
  have hbx : Below w.heap.size w (w.alloc (.cells #[.int .i64 u.k, .string u.s, .int .i64 u.n, .slice a u.l.length cap] 30)) := below_alloc _ _
  have hown := h3.below hbx
  have hcon := Lib.hid (slices_Contains_int _ _ acc u.n hown.rdi)
  clear hst h1 hpost hrd
  by_cases hk : u.k = 4
  · have hb3 : (u.k == 4) = true := by rw [beq_iff_eq]; exact hk
    by_cases hin : u.n ∈ acc
    · have hd : decide (u.n ∈ acc) = true := by simpa using hin
      rw [hd] at hcon
      have hs : Tm.varsStep acc (u, d) = acc := by unfold Tm.varsStep; rw [if_neg (fun h => h.2 hin)]
      have HSS := Lib.hid hs
      clear hs hk hin hd
      go_enter Try.func38, Try.ntmps38
      go_wp2_with fail
      refine hcon.out.mono ?_
      rintro e w' ⟨rfl, rfl⟩
      go_wp2_with fail
      go_end0
      exact HP.out _ _ HSS.out.symm (by omega) _ ((Below.heap_alloc _ _ _ hlt).trans HH1.out) hown ((Ext.refl hA).alloc _)
    · have hd : decide (u.n ∈ acc) = false := by simpa using hin
      rw [hd] at hcon
      have hs : Tm.varsStep acc (u, d) = acc ++ [u.n] := by unfold Tm.varsStep; rw [if_pos ⟨hk, hin⟩]
      have HSS := Lib.hid hs
      clear hs hk hin hd
      go_enter Try.func38, Try.ntmps38
      go_wp2_with fail
      refine hcon.out.mono ?_
      rintro e w' ⟨rfl, rfl⟩
      have hrow : ∀ g, (Value.slice va acc.length vc).ownBlock = some g → g ≠ b := fun g hg => by have := (h3.lt g hg).1; omega
      have hfree := h3.free
      go_wp2_with (at_builtin; refine wpList_own1 rfl _ _ rfl isSl_ints _ rfl (w.heap.size + 1) 1 rfl (hown.alloc _) ((hA.alloc _).alloc _) (by simp; omega) _ (heap_alloc_at _ _ _ (by simp)) u.n ⟨rfl, hq⟩ rfl (by simp; rfl) (by unfold maxLen; omega) (by omega) ?_; intro v1 w1 own1 hg1 hb1; have hbk := (hg1.block b (by simp; omega) (fun e => hrow _ e.symm rfl)).trans ((Below.heap_alloc _ _ _ (by simp; omega)).trans ((Below.heap_alloc _ _ _ hlt).trans HH1.out)); obtain ⟨z0, z1⟩ := blk_cell hbk; have HBK := Lib.hid hbk; clear hbk; obtain ⟨xa, xc, rfl, hxl, -⟩ := own1.form)
      go_end0
      have hx1 : Ext (fun k => B ≤ k) H w H w1 := (((Ext.refl hA).alloc _).alloc _).grown hg1 hfree (fun g hg hgl => by have := (h3.lt g hg).1; omega)
      refine HP.out _ _ HSS.out.symm (by simp; omega) _ (blk_set HBK.out) ?_ (hx1.setCell (p := ⟨b, 0, none⟩) h2 (fun _ => hbB) _)
      have own2 := own1
      rw [List.length_append] at own2
      refine own2.grown (w' := w1.setCell ⟨b, 0, none⟩ _) (row := some b) ⟨rfl, rfl, rfl, by simp [World.setCell], fun k hk hne => Below.heap_setCell w1 ⟨b, 0, none⟩ _ k (fun e => hne (congrArg some e))⟩ (fun g hg e => by injection e with e; have := (own2.lt g hg).1; omega)
  · have hb3 : (u.k == 4) = false := by rw [beq_eq_false_iff_ne]; exact hk
    have hs : Tm.varsStep acc (u, d) = acc := by unfold Tm.varsStep; rw [if_neg (fun h => hk h.1)]
    have HSS := Lib.hid hs
    clear hs hk
    go_enter Try.func38, Try.ntmps38
    go_wp2_with fail
    go_end0
    exact HP.out _ _ HSS.out.symm (by omega) _ ((Below.heap_alloc _ _ _ hlt).trans HH1.out) hown ((Ext.refl hA).alloc _)
/-- term.Vars. -/
theorem term_Vars (t : Tm) (cs : List Value) (H : GH) (w : World) (hQ : ∀ p ∈ t.leaves 0, I64 p.1.n) (hsz : t.size ≤ LB) (hA : Agree H w) (hR : Rep H t cs) :
    Calls Try.prog 18 #[.agg cs.toArray] w fun e w' => ∃ H' v, e = .returned v ∧ Ints H' v t.vars ∧ Pure H w H' w' := by
  have hll := leaves_length t 0
  have hT := vars_tell (w.heap.size + 1) w.heap.size ((t.leaves 0).length) (by omega) (by omega)
  have hlb : LB = 2513169434916 := rfl
  have hI := Lib.hid (fun W hI hA hB => term_each 38 _ (by intro args w; go_simp) w.heap.size _ _ _ hT t 0 [] cs H W hQ (by omega) (by omega) (by simp) hI hA hB hR)
  have hn := hA.free (k := w.heap.size + 1) (by omega)
  clear hT hlb hll
  obtain ⟨a, cap, rfl, -, -, -, -⟩ := hR.open_
  go_enter Try.func18, Try.ntmps18
  go_wp2_with fail
  refine (hI.out _ ⟨.slice none 0 0, heap_alloc_at _ _ _ (by simp), hn, Own.nil _ _ _ _ _ _, by simp⟩ ((hA.alloc _).alloc _) (by simp; omega)).mono ?_
  rintro e w1 ⟨rfl, H1, ⟨v, g1, g2, g3, g4⟩, X⟩
  rw [List.nil_append] at g3
  obtain ⟨q0, -⟩ := blk_cell g1
  have hY := Lib.hid (show (t.leaves 0).foldl Tm.varsStep [] = t.vars from rfl)
  have E1 := (((Ext.refl (O := fun k => w.heap.size ≤ k) hA).alloc (.cells #[.int .i64 t.k, .string t.s, .int .i64 t.n, .slice a t.l.length cap] 30)).alloc (.cells #[.slice none 0 0] 48)).trans X (fun k hk _ => hk)
  have E2 : Pure H w H1 w1 := ⟨E1.sub, E1.agree, E1.os, E1.tape, E1.output, E1.size, fun k hk _ => E1.block k hk (by omega), E1.old⟩
  obtain ⟨H2, E3, -, -, hi⟩ := g3.freeze_ext E2 (by omega) (fun _ _ h => by rw [h.1]; rfl)
  rw [hY.out] at hi
  clear g1 g2 g4 X hI g3
  obtain ⟨va, vc, rfl, -, -⟩ := hi.form
  go_wp2_with fail
  go_ret
  exact ⟨H2, _, rfl, hi, E3⟩
/-! ### Lams -/
theorem lams_size (n : Nat) (t : Tm) : (Tm.lamsN n t).size = n + t.size := by
  induction n generalizing t with
  | zero => rw [Tm.lamsN]; omega
  | succ n ih => rw [Tm.lamsN, ih, Tm.size_mk, Tm.sizeL_cons, Tm.sizeL_nil]; omega
def LamsRel (H : GH) (w : World) (n : Nat) (t : Tm) (i : Value) (wr : World) : Prop :=
  ∃ (j : Nat) (Hc : GH) (u : Tm) (cs : List Value), j ≤ n ∧ i = .int .i64 j ∧ Pure H w Hc wr ∧ Rep Hc u cs ∧ Hc w.heap.size = none ∧ Hc (w.heap.size + 1) = none ∧ wr.heap[w.heap.size]? = some (.cells cs.toArray 30 (0, 0)) ∧
    wr.heap[w.heap.size + 1]? = some (.cells #[.int .i64 0, .string ⟨#[]⟩, .int .i64 0, .slice none 0 0] 30 (0, 0)) ∧ Tm.lamsN (n - j) u = Tm.lamsN n t
theorem lamsN_comm (n : Nat) (t : Tm) : Tm.lamsN n (.mk 5 ByteArray.empty 0 [t]) = Tm.lamsN (n + 1) t := by rw [Tm.lamsN]
theorem blk_cells {w : World} {b : Nat} {C : Array Value} {T : TypeId} (h : w.heap[b]? = some (.cells C T (0, 0))) (i : Nat) : w.cell? ⟨b, i, none⟩ = C[i]? ∧ w.frozen? ⟨b, i, none⟩ = false := by
  simp [World.cell?, World.frozen?, h]
theorem blk_set4 {w : World} {b : Nat} {v0 v1 v2 v3 : Value} (u0 u1 u2 u3 : Value) {T : TypeId} (h : w.heap[b]? = some (.cells #[v0, v1, v2, v3] T (0, 0))) :
    ((((w.setCell ⟨b, 0, none⟩ u0).setCell ⟨b, 1, none⟩ u1).setCell ⟨b, 2, none⟩ u2).setCell ⟨b, 3, none⟩ u3).heap[b]? = some (.cells #[u0, u1, u2, u3] T (0, 0)) := by
  simp [World.setCell, Array.getElem?_modify, h]
theorem blk_far4 {w : World} {b k : Nat} (u0 u1 u2 u3 : Value) (h : k ≠ b) : ((((w.setCell ⟨b, 0, none⟩ u0).setCell ⟨b, 1, none⟩ u1).setCell ⟨b, 2, none⟩ u2).setCell ⟨b, 3, none⟩ u3).heap[k]? = w.heap[k]? := by
  rw [Below.heap_setCell _ _ _ _ h, Below.heap_setCell _ _ _ _ h, Below.heap_setCell _ _ _ _ h, Below.heap_setCell _ _ _ _ h]
theorem size_set4 (w : World) (b : Nat) (u0 u1 u2 u3 : Value) : ((((w.setCell ⟨b, 0, none⟩ u0).setCell ⟨b, 1, none⟩ u1).setCell ⟨b, 2, none⟩ u2).setCell ⟨b, 3, none⟩ u3).heap.size = w.heap.size := by simp [World.setCell]
set_option maxHeartbeats 1000000 in
theorem lams_pos (n : Nat) (t : Tm) (cs : List Value) (H : GH) (w : World) (hn : n ≤ LB) (hA : Agree H w) (hR : Rep H t cs) :
    Calls Try.prog 21 #[.int .i64 n, .agg cs.toArray] w fun e w' => ∃ H' cs', e = .returned (.agg cs'.toArray) ∧ Pure H w H' w' ∧ Rep H' (Tm.lamsN n t) cs' := by
  unfold LB at hn
  have hR0 := Lib.hid hR
  have hn0 : (0 : Int) ≤ n := by omega
  obtain ⟨a, cap, rfl, -, -, -, -⟩ := hR.open_
  go_enter Try.func21, Try.ntmps21
  go_wp2_with fail
  go_loopw [7] (fun i wr => LamsRel H w n t i wr) (fun i _ => n - (intOf i).toNat)
  case atStart =>
    refine ⟨0, H, t, _, Nat.zero_le _, rfl, ((Ext.refl hA).alloc _).alloc _, hR, hA.free (by omega), hA.free (by omega), (Below.heap_alloc _ _ _ (by simp)).trans (heap_alloc_at _ _ _ (by simp)), heap_alloc_at _ _ _ (by simp), rfl⟩
  case round =>
    obtain ⟨j, Hc, u, ucs, hj, rfl, EC, hRu, hf0, hf1, hb0, hb1, hu⟩ := hrel
    have hRu' := Lib.hid hRu
    have HU := Lib.hid hu
    obtain ⟨ua, uc, rfl, -, -, -, -⟩ := hRu.open_
    have c0 := (blk_cells hb0 0).1
    have c1 := (blk_cells hb0 1).1
    have c2 := (blk_cells hb0 2).1
    have c3 := (blk_cells hb0 3).1
    have z0 := (blk_cells hb0 0).2
    have z1 := (blk_cells hb0 1).2
    have z2 := (blk_cells hb0 2).2
    have z3 := (blk_cells hb0 3).2
    have hlt0 := cell_lt hb0
    have HB0 := Lib.hid hb0
    have HB1 := Lib.hid hb1
    have hwlt : w.heap.size + 1 < wr.heap.size := cell_lt hb1
    simp at c0 c1 c2 c3
    clear hb0 hb1 hu hRu
    by_cases hlt : j < n
    · go_wp2_with fail
      refine ⟨?_, by simp [intOf]; omega⟩
      have hnf : Hc wr.heap.size = none := EC.agree.free (Nat.le_refl _)
      have E1 := (EC.store4 hf0 (Nat.le_refl _) (.int .i64 5) (.string ⟨#[]⟩) (.int .i64 0) (.slice (some ⟨wr.heap.size, 0, none⟩) 1 1)).alloc (.cells #[.int .i64 u.k, .string u.s, .int .i64 u.n, .slice ua u.l.length uc] 30)
      have E2 := E1.put (g := wr.heap.size) (heap_alloc_at _ _ _ (size_set4 _ _ _ _ _ _).symm) hnf EC.size
      have hsub : Sub Hc _ := GH.sub_put hnf (.cells #[.int .i64 u.k, .string u.s, .int .i64 u.n, .slice ua u.l.length uc] 30)
      refine ⟨j + 1, _, .mk 5 ByteArray.empty 0 [u], _, by omega, by go_num, E2, Rep.shut (by unfold I64; omega) (by unfold I64; omega) (by simp [maxLen]) (tms_box (GH.put_same _ _ _) (hRu'.out.mono hsub) (Nat.le_refl _) (by unfold maxLen; omega)), ?_, ?_, ?_, ?_, ?_⟩
      · rw [GH.put_other _ _ (by omega)]; exact hf0
      · rw [GH.put_other _ _ (by omega)]; exact hf1
      · refine (Below.heap_alloc _ _ _ (by rw [size_set4]; exact hlt0)).trans ?_
        exact blk_set4 _ _ _ _ HB0.out
      · refine (Below.heap_alloc _ _ _ (by rw [size_set4]; exact hwlt)).trans ?_
        rw [blk_far4 _ _ _ _ (by omega)]
        exact HB1.out
      · rw [lamsN_comm, show n - (j + 1) + 1 = n - j by omega]
        exact HU.out
    · have hjn : j = n := by omega
      have e0 := (blk_cells HB1.out 0).1
      have e1 := (blk_cells HB1.out 1).1
      have e2 := (blk_cells HB1.out 2).1
      have e3 := (blk_cells HB1.out 3).1
      have y0 := (blk_cells HB1.out 0).2
      have y1 := (blk_cells HB1.out 1).2
      have y2 := (blk_cells HB1.out 2).2
      have y3 := (blk_cells HB1.out 3).2
      simp at e0 e1 e2 e3
      have HJ := Lib.hid hjn
      clear hjn
      go_wp2_with fail
      have E1 := EC.store4 hf1 (by omega) (.int .i64 u.k) (.string u.s) (.int .i64 u.n) (.slice ua u.l.length uc)
      refine bodyPost_ret (v := .agg #[.int .i64 u.k, .string u.s, .int .i64 u.n, .slice ua u.l.length uc]) (by simp [results, Try.results21, go_sem, e0, e1, e2, e3]) rfl ⟨Hc, _, rfl, E1, ?_⟩
      have := HU.out
      rw [HJ.out, Nat.sub_self, Tm.lamsN] at this
      rw [← this]
      exact hRu'.out
/-- term.Lams. -/
theorem term_Lams (n : Int) (t : Tm) (cs : List Value) (H : GH) (w : World) (hn : n ≤ LB) (hA : Agree H w) (hR : Rep H t cs) :
    Calls Try.prog 21 #[.int .i64 n, .agg cs.toArray] w fun e w' => ∃ H' cs', e = .returned (.agg cs'.toArray) ∧ Pure H w H' w' ∧ Rep H' (t.lams n) cs' := by
  by_cases h0 : 0 ≤ n
  · obtain ⟨m, rfl⟩ := Int.eq_ofNat_of_zero_le h0
    have : t.lams (m : Int) = Tm.lamsN m t := by unfold Tm.lams; simp
    rw [this]
    exact lams_pos m t cs H w (by unfold LB at *; omega) hA hR
  · have hl : t.lams n = t := by
      unfold Tm.lams
      rw [show n.toNat = 0 by omega]
      rfl
    rw [hl]
    have hn0 : n < 0 := by omega
    have hn1 : n ≤ 0 := by omega
    have hR0 := Lib.hid hR
    obtain ⟨a, cap, rfl, -, -, -, -⟩ := hR.open_
    go_enter Try.func21, Try.ntmps21
    go_wp2_with fail
    refine wp_loop_rounds 1 ?_
    rw [rounds_succ]
    go_wp2_with fail
    exact bodyPost_ret (v := .agg #[.int .i64 t.k, .string t.s, .int .i64 t.n, .slice a t.l.length cap]) (by simp [results, Try.results21, go_sem]) rfl ⟨H, _, rfl, ((Ext.refl hA).alloc _).alloc _, hR0.out⟩
end Go.Proofs.Ytbdappbmlnpogaa
namespace Go.Proofs.Ytbdappbmlnpogaa
namespace Tm
mutual
def occurs : Tm → Int → Int
  | .mk k _ n l, i => if k = 3 ∧ n = i then 1 else occursL l (if k = 5 then i + 1 else i)
def occursL : List Tm → Int → Int | [], _ => 0 | t :: ts, i => t.occurs i + occursL ts i
end
theorem occurs_mk (k s n l i) : (mk k s n l).occurs i = if k = 3 ∧ n = i then 1 else occursL l (if k = 5 then i + 1 else i) := by rw [occurs]
theorem occursL_append (a b : List Tm) (i : Int) : occursL (a ++ b) i = occursL a i + occursL b i := by
  induction a with
  | nil => rw [List.nil_append, occursL]; omega
  | cons x xs ih => rw [List.cons_append, occursL, occursL, ih]; omega
theorem occurs_le (t : Tm) : ∀ i, 0 ≤ t.occurs i ∧ t.occurs i ≤ t.size := by
  induction t using ind with
  | h k s n l ih =>
    intro i
    have hl : ∀ j, 0 ≤ occursL l j ∧ occursL l j ≤ sizeL l := by
      intro j
      induction l with
      | nil => rw [occursL]; simp
      | cons x xs ihx =>
        have h1 := ih x (by simp) j
        have h2 := ihx (fun t ht => ih t (by simp [ht]))
        rw [occursL, sizeL_cons]; omega
    rw [occurs_mk, size_mk]
    split
    · omega
    · have := hl (if k = 5 then i + 1 else i); omega
theorem occursL_take (l : List Tm) (i : Int) (j : Nat) : 0 ≤ occursL (l.take j) i ∧ occursL (l.take j) i ≤ sizeL l := by
  have h : ∀ l : List Tm, 0 ≤ occursL l i ∧ occursL l i ≤ sizeL l := by
    intro l
    induction l with
    | nil => rw [occursL]; simp
    | cons x xs ihx => have h1 := occurs_le x i; rw [occursL, sizeL_cons]; omega
  have h1 := h (l.take j)
  have h2 : sizeL l = sizeL (l.take j) + sizeL (l.drop j) := by rw [← sizeL_append, List.take_append_drop]
  omega
def occursV (t : Tm) (i : Int) : Int := if t.valid then t.occurs i else 0
/-- beta.contract: the term and the error. -/
def contract (body arg : Tm) : Tm × Int :=
  if 4096 < body.gsize + body.occurs 0 * arg.gsize then (zero, 80) else (body.subst 0 arg, 0)
def contractV (body arg : Tm) : Tm × Int := if body.valid ∧ arg.valid then contract body arg else (zero, 1)
/-! ### eta -/
def free (t : Tm) (i : Int) : Bool := decide (0 < t.occursV i)
/-- What stands ahead of a body's last argument. -/
def rest (t : Tm) : Tm := apply (t.l.getD 0 zero) ((t.l.take (t.l.length - 1)).drop 1)
def drop (t : Tm) : Tm × Bool :=
  if t.k ≠ 6 ∨ (t.l.getD (t.l.length - 1) zero).k ≠ 3 ∨ (t.l.getD (t.l.length - 1) zero).n ≠ 0 then (zero, false)
  else if free t.rest 0 then (zero, false) else (t.rest.shift 0 (-1), true)
mutual
/-- eta.short (of a term that is valid). -/
def short : Tm → Tm
  | .mk k s n l =>
    if k = 5 then
      let b := (shortL l).getD 0 zero
      if (drop b).2 then (drop b).1 else lams 1 b
    else if k = 6 then apply ((shortL l).getD 0 zero) ((shortL l).drop 1)
    else .mk k s n l
def shortL : List Tm → List Tm | [] => [] | t :: ts => t.short :: shortL ts
end
theorem shortL_map (l : List Tm) : shortL l = l.map short := by
  induction l with
  | nil => rw [shortL]; rfl
  | cons x xs ih => rw [shortL, ih]; rfl
def shortV (t : Tm) : Tm := if t.valid then t.short else t
def leafV (t : Tm) : Tm × Bool := if t.valid then (if t.short.k = 3 ∨ t.short.k = 1 then (t.short, true) else (zero, false)) else (zero, false)
/-! ### clause -/
def split (t : Tm) : Tm × List Tm := if t.k ≠ 6 ∨ t.valid = false then (t, []) else (t.l.getD 0 zero, t.l.drop 1)
end Tm
end Go.Proofs.Ytbdappbmlnpogaa
