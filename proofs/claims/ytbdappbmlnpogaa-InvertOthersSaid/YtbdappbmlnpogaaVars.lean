/- slices.Index, Contains at int; term.Vars; term.Lams. -/
import Derived.Test.YtbdappbmlnpogaaEach
namespace Go.Proofs.Ytbdappbmlnpogaa
open Go Go.Proofs Go.RowKit
set_option maxRecDepth 100000
theorem isSl_ints : IsSl Try.prog 48 3 1 8 := isSl_of (z := .int .i64 0) Try.underlying48 (by kernel_rfl) rfl (by decide)
/-- A slice of whole numbers that is read. -/
def RdI (w : World) (v : Value) (xs : List Int) : Prop :=
  ∃ a cap, v = .slice a xs.length cap ∧ xs.length ≤ cap ∧ cap ≤ maxLen ∧ ∀ (i : Nat) (x : Int), xs[i]? = some x → ∃ b o, a = some ⟨b, o, none⟩ ∧ w.cell? ⟨b, o + i, none⟩ = some (.int .i64 x)
/-- The cells of a whole number. -/
def IntP (n : Int) (cs : List Value) : Prop := cs = [.int .i64 n] ∧ I64 n
theorem IntP.one {n : Int} {cs : List Value} (h : IntP n cs) : ∀ u ∈ cs, u.oneCell' = true := by
  rw [h.1]; intro u hu; rw [List.mem_singleton.1 hu]; rfl
abbrev Ints (H : GH) (v : Value) (xs : List Int) : Prop := Sl H 1 IntP v xs
theorem Ints.rd {H : GH} {w : World} {v : Value} {xs : List Int} (h : Ints H v xs) (hA : Agree H w) : RdI w v xs := by
  obtain ⟨a, cap, rfl, hl, hc⟩ := h.form
  refine ⟨a, cap, rfl, hl, hc, fun i x hi => ?_⟩
  obtain ⟨b, o, cs, ha, -, ⟨rfl, -⟩, hcell⟩ := h.get hi
  exact ⟨b, o, ha, by simpa using hA.cell (hcell 0 _ rfl)⟩
theorem Own.rdi {H : GH} {w : World} {base : Nat} {v : Value} {xs : List Int} (h : Own H w base 3 1 IntP v xs) : RdI w v xs := by
  obtain ⟨a, cap, rfl, hl, hc⟩ := h.form
  refine ⟨a, cap, rfl, hl, hc, fun i x hi => ?_⟩
  obtain ⟨C, hr, hf, hx⟩ := h
  rcases hr.2 with ⟨hv, h0⟩ | ⟨g, cp, cur, hv, hb, hh, r⟩
  · have := (List.getElem?_eq_some_iff.1 hi).1; omega
  · injection hv with h1 h2 h3
    subst h1; subst h3
    refine ⟨g, 0, rfl, ?_⟩
    obtain ⟨hcs, -⟩ := hx i x hi
    have hci : C[i]? = some (.int .i64 x) := by
      have : ((C.drop (i * 1)).take 1)[0]? = some (.int .i64 x) := by rw [hcs]; rfl
      rw [List.getElem?_take, if_pos (by omega), List.getElem?_drop] at this
      simpa using this
    have := hr.cells (g := g) rfl i _ hci
    rw [Addr.add_lit] at this
    exact this
theorem slices_Index_int (w : World) (v : Value) (xs : List Int) (n : Int) (h : RdI w v xs) :
    Calls Try.prog 64 #[v, .int .i64 n] w fun e w' => e = .returned (.int .i64 (idx (fun x => n == x) xs 0)) ∧ w' = w := by
  obtain ⟨a, cap, rfl, hl, hc, hcell⟩ := h
  unfold maxLen at hc
  go_enter Try.func64, Try.ntmps64
  go_wp2
  go_loop [8] (fun i => ∃ k : Nat, k ≤ xs.length ∧ i = .int .i64 k ∧ Hid (∀ (j : Nat) (y : Int), j < k → xs[j]? = some y → (n == y) = false)) (fun i => xs.length - (intOf i).toNat)
  case atStart => exact ⟨0, Nat.zero_le _, rfl, fun j y hj => absurd hj (by omega)⟩
  case round =>
    obtain ⟨k, hk, rfl, hn⟩ := hrel
    by_cases hlt : k < xs.length
    · obtain ⟨x, hx⟩ : ∃ x, xs[k]? = some x := ⟨_, List.getElem?_eq_getElem hlt⟩
      obtain ⟨b, o, rfl, c0⟩ := hcell k x hx
      have HX := Lib.hid hx
      have HCC := Lib.hid hcell
      clear hx hcell
      cases hq : (n == x) with
      | true =>
        go_wp2_with fail
        go_ret
        refine ⟨?_, rfl⟩
        rw [idx_hit _ xs k 0 _ HX.out hq hn.out, Int.zero_add]
        rfl
      | false =>
        go_wp2_with fail
        go_round
        case rel =>
          refine ⟨k + 1, by omega, by go_num, fun j y hj hy => ?_⟩
          by_cases e : j = k
          · subst e
            rw [HX.out] at hy
            injection hy with hy
            subst hy
            exact hq
          · exact hn.out j y (by omega) hy
        case measure => simp [intOf]; omega
    · have HCC := Lib.hid hcell
      clear hcell
      go_wp2
      go_ret
      refine ⟨?_, rfl⟩
      rw [idx_miss _ xs 0 (fun j y hy => hn.out j y (by have := (List.getElem?_eq_some_iff.1 hy).1; omega) hy)]
      rfl
theorem slices_Contains_int (w : World) (v : Value) (xs : List Int) (n : Int) (h : RdI w v xs) :
    Calls Try.prog 39 #[v, .int .i64 n] w fun e w' => e = .returned (.bool (decide (n ∈ xs))) ∧ w' = w := by
  have h1 := Lib.hid (slices_Index_int w v xs n h)
  have h2 := Lib.hid (idx_any (fun x => n == x) xs)
  clear h
  go_enter Try.func39, Try.ntmps39
  go_wp2_with fail
  refine h1.out.mono ?_
  rintro e w' ⟨rfl, rfl⟩
  go_wp2_with fail
  go_ret
  refine ⟨ret_bool ?_, rfl⟩
  have h3 := h2.out
  rw [Bool.eq_iff_iff, decide_eq_true_iff, List.any_eq_true] at h3
  simp only [decide_eq_true_iff]
  constructor
  · intro h
    obtain ⟨x, hx, he⟩ := h3.1 (by simpa using h)
    rw [beq_iff_eq] at he
    rw [he]; exact hx
  · intro h
    have := h3.2 ⟨n, h, by simp⟩
    simpa using this
/-! ### Vars -/
def VarsI (b : Nat) (L : List (Tm × Int)) (H : GH) (w : World) : Prop :=
  ∃ v, w.heap[b]? = some (.cells #[v] 48 (0, 0)) ∧ H b = none ∧ Own H w (b + 1) 3 1 IntP v (L.foldl Tm.varsStep []) ∧ (L.foldl Tm.varsStep []).length ≤ L.length
set_option maxHeartbeats 1000000 in
theorem vars_tell (b B N : Nat) (hN : N ≤ LB) (hbB : B ≤ b) : TellOK 38 #[.pointer (some ⟨b, 0, none⟩)] B N (VarsI b) (fun u _ => I64 u.n) := by
  refine ⟨fun L H w w' ⟨v, h1, h2, h3, h4⟩ hb => ⟨v, (hb.block b (cell_lt h1)).trans h1, h2, h3.below hb, h4⟩, fun L u d cs H w hq hLN ⟨v, h1, h2, h3, h4⟩ hA hB hR => ?_⟩
  obtain ⟨a, cap, rfl, -, -, -, -⟩ := hR.open_
  have hst : (L ++ [(u, d)]).foldl Tm.varsStep [] = Tm.varsStep (L.foldl Tm.varsStep []) (u, d) := by rw [List.foldl_append]; rfl
  have hlt := cell_lt h1
  have hpost : ∀ (V : List Int) (v' : Value), V = Tm.varsStep (L.foldl Tm.varsStep []) (u, d) → V.length ≤ L.length + 1 → ∀ w', w'.heap[b]? = some (.cells #[v'] 48 (0, 0)) → Own H w' (b + 1) 3 1 IntP v' V → Ext (fun k => B ≤ k) H w H w' → TellPost B (VarsI b) (L ++ [(u, d)]) H w (.returned noResult) w' := by
    intro V v' hV h0 w' hw ho hx
    rw [← hst] at hV
    subst hV
    exact ⟨rfl, H, ⟨v', hw, h2, ho, by rw [List.length_append]; exact h0⟩, hx⟩
  have HP := Lib.hid hpost
  have HH1 := Lib.hid h1
  generalize L.foldl Tm.varsStep [] = acc at *
  obtain ⟨q0, q1⟩ := blk_cell h1
  obtain ⟨va, vc, rfl, hvl, hvm⟩ := h3.form
  unfold LB at hN
  have hrd := h3.rdi
  have hbx : Below w.heap.size w (w.alloc (.cells #[.int .i64 u.k, .string u.s, .int .i64 u.n, .slice a u.l.length cap] 30)) := below_alloc _ _
  have hown := h3.below hbx
  have hcon := Lib.hid (slices_Contains_int _ _ acc u.n hown.rdi)
  clear hst h1 hpost hrd
  by_cases hk : u.k = 4
  · have hb3 : (u.k == 4) = true := by rw [beq_iff_eq]; exact hk
    by_cases hin : u.n ∈ acc
    · have hd : decide (u.n ∈ acc) = true := by simpa using hin
      rw [hd] at hcon
      have hs : Tm.varsStep acc (u, d) = acc := by unfold Tm.varsStep; rw [if_neg (fun h => h.2 hin)]
      have HSS := Lib.hid hs
      clear hs hk hin hd
      go_enter Try.func38, Try.ntmps38
      go_wp2_with fail
      refine hcon.out.mono ?_
      rintro e w' ⟨rfl, rfl⟩
      go_wp2_with fail
      go_end0
      exact HP.out _ _ HSS.out.symm (by omega) _ ((Below.heap_alloc _ _ _ hlt).trans HH1.out) hown ((Ext.refl hA).alloc _)
    · have hd : decide (u.n ∈ acc) = false := by simpa using hin
      rw [hd] at hcon
      have hs : Tm.varsStep acc (u, d) = acc ++ [u.n] := by unfold Tm.varsStep; rw [if_pos ⟨hk, hin⟩]
      have HSS := Lib.hid hs
      clear hs hk hin hd
      go_enter Try.func38, Try.ntmps38
      go_wp2_with fail
      refine hcon.out.mono ?_
      rintro e w' ⟨rfl, rfl⟩
      have hrow : ∀ g, (Value.slice va acc.length vc).ownBlock = some g → g ≠ b := fun g hg => by have := (h3.lt g hg).1; omega
      have hfree := h3.free
      go_wp2_with (at_builtin; refine wpList_own1 rfl _ _ rfl isSl_ints _ rfl (w.heap.size + 1) 1 rfl (hown.alloc _) ((hA.alloc _).alloc _) (by simp; omega) _ (heap_alloc_at _ _ _ (by simp)) u.n ⟨rfl, hq⟩ rfl (by simp; rfl) (by unfold maxLen; omega) (by omega) ?_; intro v1 w1 own1 hg1 hb1; have hbk := (hg1.block b (by simp; omega) (fun e => hrow _ e.symm rfl)).trans ((Below.heap_alloc _ _ _ (by simp; omega)).trans ((Below.heap_alloc _ _ _ hlt).trans HH1.out)); obtain ⟨z0, z1⟩ := blk_cell hbk; have HBK := Lib.hid hbk; clear hbk; obtain ⟨xa, xc, rfl, hxl, -⟩ := own1.form)
      go_end0
      have hx1 : Ext (fun k => B ≤ k) H w H w1 := (((Ext.refl hA).alloc _).alloc _).grown hg1 hfree (fun g hg hgl => by have := (h3.lt g hg).1; omega)
      refine HP.out _ _ HSS.out.symm (by simp; omega) _ (blk_set HBK.out) ?_ (hx1.setCell (p := ⟨b, 0, none⟩) h2 (fun _ => hbB) _)
      have own2 := own1
      rw [List.length_append] at own2
      refine own2.grown (w' := w1.setCell ⟨b, 0, none⟩ _) (row := some b) ⟨rfl, rfl, rfl, by simp [World.setCell], fun k hk hne => Below.heap_setCell w1 ⟨b, 0, none⟩ _ k (fun e => hne (congrArg some e))⟩ (fun g hg e => by injection e with e; have := (own2.lt g hg).1; omega)
  · have hb3 : (u.k == 4) = false := by rw [beq_eq_false_iff_ne]; exact hk
    have hs : Tm.varsStep acc (u, d) = acc := by unfold Tm.varsStep; rw [if_neg (fun h => hk h.1)]
    have HSS := Lib.hid hs
    clear hs hk
    go_enter Try.func38, Try.ntmps38
    go_wp2_with fail
    go_end0
    exact HP.out _ _ HSS.out.symm (by omega) _ ((Below.heap_alloc _ _ _ hlt).trans HH1.out) hown ((Ext.refl hA).alloc _)
/-- term.Vars. -/
theorem term_Vars (t : Tm) (cs : List Value) (H : GH) (w : World) (hQ : ∀ p ∈ t.leaves 0, I64 p.1.n) (hsz : t.size ≤ LB) (hA : Agree H w) (hR : Rep H t cs) :
    Calls Try.prog 18 #[.agg cs.toArray] w fun e w' => ∃ H' v, e = .returned v ∧ Ints H' v t.vars ∧ Pure H w H' w' := by
  have hll := leaves_length t 0
  have hT := vars_tell (w.heap.size + 1) w.heap.size ((t.leaves 0).length) (by omega) (by omega)
  have hlb : LB = 2513169434916 := rfl
  have hI := Lib.hid (fun W hI hA hB => term_each 38 _ (by intro args w; go_simp) w.heap.size _ _ _ hT t 0 [] cs H W hQ (by omega) (by omega) (by simp) hI hA hB hR)
  have hn := hA.free (k := w.heap.size + 1) (by omega)
  clear hT hlb hll
  obtain ⟨a, cap, rfl, -, -, -, -⟩ := hR.open_
  go_enter Try.func18, Try.ntmps18
  go_wp2_with fail
  refine (hI.out _ ⟨.slice none 0 0, heap_alloc_at _ _ _ (by simp), hn, Own.nil _ _ _ _ _ _, by simp⟩ ((hA.alloc _).alloc _) (by simp; omega)).mono ?_
  rintro e w1 ⟨rfl, H1, ⟨v, g1, g2, g3, g4⟩, X⟩
  rw [List.nil_append] at g3
  obtain ⟨q0, -⟩ := blk_cell g1
  have hY := Lib.hid (show (t.leaves 0).foldl Tm.varsStep [] = t.vars from rfl)
  have E1 := (((Ext.refl (O := fun k => w.heap.size ≤ k) hA).alloc (.cells #[.int .i64 t.k, .string t.s, .int .i64 t.n, .slice a t.l.length cap] 30)).alloc (.cells #[.slice none 0 0] 48)).trans X (fun k hk _ => hk)
  have E2 : Pure H w H1 w1 := ⟨E1.sub, E1.agree, E1.os, E1.tape, E1.output, E1.size, fun k hk _ => E1.block k hk (by omega), E1.old⟩
  obtain ⟨H2, E3, -, -, hi⟩ := g3.freeze_ext E2 (by omega) (fun _ _ h => by rw [h.1]; rfl)
  rw [hY.out] at hi
  clear g1 g2 g4 X hI g3
  obtain ⟨va, vc, rfl, -, -⟩ := hi.form
  go_wp2_with fail
  go_ret
  exact ⟨H2, _, rfl, hi, E3⟩
/-! ### Lams -/
theorem lams_size (n : Nat) (t : Tm) : (Tm.lamsN n t).size = n + t.size := by
  induction n generalizing t with
  | zero => rw [Tm.lamsN]; omega
  | succ n ih => rw [Tm.lamsN, ih, Tm.size_mk, Tm.sizeL_cons, Tm.sizeL_nil]; omega
def LamsRel (H : GH) (w : World) (n : Nat) (t : Tm) (i : Value) (wr : World) : Prop :=
  ∃ (j : Nat) (Hc : GH) (u : Tm) (cs : List Value), j ≤ n ∧ i = .int .i64 j ∧ Pure H w Hc wr ∧ Rep Hc u cs ∧ Hc w.heap.size = none ∧ Hc (w.heap.size + 1) = none ∧ wr.heap[w.heap.size]? = some (.cells cs.toArray 30 (0, 0)) ∧
    wr.heap[w.heap.size + 1]? = some (.cells #[.int .i64 0, .string ⟨#[]⟩, .int .i64 0, .slice none 0 0] 30 (0, 0)) ∧ Tm.lamsN (n - j) u = Tm.lamsN n t
theorem lamsN_comm (n : Nat) (t : Tm) : Tm.lamsN n (.mk 5 ByteArray.empty 0 [t]) = Tm.lamsN (n + 1) t := by rw [Tm.lamsN]
theorem blk_cells {w : World} {b : Nat} {C : Array Value} {T : TypeId} (h : w.heap[b]? = some (.cells C T (0, 0))) (i : Nat) : w.cell? ⟨b, i, none⟩ = C[i]? ∧ w.frozen? ⟨b, i, none⟩ = false := by
  simp [World.cell?, World.frozen?, h]
theorem blk_set4 {w : World} {b : Nat} {v0 v1 v2 v3 : Value} (u0 u1 u2 u3 : Value) {T : TypeId} (h : w.heap[b]? = some (.cells #[v0, v1, v2, v3] T (0, 0))) :
    ((((w.setCell ⟨b, 0, none⟩ u0).setCell ⟨b, 1, none⟩ u1).setCell ⟨b, 2, none⟩ u2).setCell ⟨b, 3, none⟩ u3).heap[b]? = some (.cells #[u0, u1, u2, u3] T (0, 0)) := by
  simp [World.setCell, Array.getElem?_modify, h]
theorem blk_far4 {w : World} {b k : Nat} (u0 u1 u2 u3 : Value) (h : k ≠ b) : ((((w.setCell ⟨b, 0, none⟩ u0).setCell ⟨b, 1, none⟩ u1).setCell ⟨b, 2, none⟩ u2).setCell ⟨b, 3, none⟩ u3).heap[k]? = w.heap[k]? := by
  rw [Below.heap_setCell _ _ _ _ h, Below.heap_setCell _ _ _ _ h, Below.heap_setCell _ _ _ _ h, Below.heap_setCell _ _ _ _ h]
theorem size_set4 (w : World) (b : Nat) (u0 u1 u2 u3 : Value) : ((((w.setCell ⟨b, 0, none⟩ u0).setCell ⟨b, 1, none⟩ u1).setCell ⟨b, 2, none⟩ u2).setCell ⟨b, 3, none⟩ u3).heap.size = w.heap.size := by simp [World.setCell]
set_option maxHeartbeats 1000000 in
theorem lams_pos (n : Nat) (t : Tm) (cs : List Value) (H : GH) (w : World) (hn : n ≤ LB) (hA : Agree H w) (hR : Rep H t cs) :
    Calls Try.prog 21 #[.int .i64 n, .agg cs.toArray] w fun e w' => ∃ H' cs', e = .returned (.agg cs'.toArray) ∧ Pure H w H' w' ∧ Rep H' (Tm.lamsN n t) cs' := by
  unfold LB at hn
  have hR0 := Lib.hid hR
  have hn0 : (0 : Int) ≤ n := by omega
  obtain ⟨a, cap, rfl, -, -, -, -⟩ := hR.open_
  go_enter Try.func21, Try.ntmps21
  go_wp2_with fail
  go_loopw [7] (fun i wr => LamsRel H w n t i wr) (fun i _ => n - (intOf i).toNat)
  case atStart =>
    refine ⟨0, H, t, _, Nat.zero_le _, rfl, ((Ext.refl hA).alloc _).alloc _, hR, hA.free (by omega), hA.free (by omega), (Below.heap_alloc _ _ _ (by simp)).trans (heap_alloc_at _ _ _ (by simp)), heap_alloc_at _ _ _ (by simp), rfl⟩
  case round =>
    obtain ⟨j, Hc, u, ucs, hj, rfl, EC, hRu, hf0, hf1, hb0, hb1, hu⟩ := hrel
    have hRu' := Lib.hid hRu
    have HU := Lib.hid hu
    obtain ⟨ua, uc, rfl, -, -, -, -⟩ := hRu.open_
    have c0 := (blk_cells hb0 0).1
    have c1 := (blk_cells hb0 1).1
    have c2 := (blk_cells hb0 2).1
    have c3 := (blk_cells hb0 3).1
    have z0 := (blk_cells hb0 0).2
    have z1 := (blk_cells hb0 1).2
    have z2 := (blk_cells hb0 2).2
    have z3 := (blk_cells hb0 3).2
    have hlt0 := cell_lt hb0
    have HB0 := Lib.hid hb0
    have HB1 := Lib.hid hb1
    have hwlt : w.heap.size + 1 < wr.heap.size := cell_lt hb1
    simp at c0 c1 c2 c3
    clear hb0 hb1 hu hRu
    by_cases hlt : j < n
    · go_wp2_with fail
      refine ⟨?_, by simp [intOf]; omega⟩
      have hnf : Hc wr.heap.size = none := EC.agree.free (Nat.le_refl _)
      have E1 := (EC.store4 hf0 (Nat.le_refl _) (.int .i64 5) (.string ⟨#[]⟩) (.int .i64 0) (.slice (some ⟨wr.heap.size, 0, none⟩) 1 1)).alloc (.cells #[.int .i64 u.k, .string u.s, .int .i64 u.n, .slice ua u.l.length uc] 30)
      have E2 := E1.put (g := wr.heap.size) (heap_alloc_at _ _ _ (size_set4 _ _ _ _ _ _).symm) hnf EC.size
      have hsub : Sub Hc _ := GH.sub_put hnf (.cells #[.int .i64 u.k, .string u.s, .int .i64 u.n, .slice ua u.l.length uc] 30)
      refine ⟨j + 1, _, .mk 5 ByteArray.empty 0 [u], _, by omega, by go_num, E2, Rep.shut (by unfold I64; omega) (by unfold I64; omega) (by simp [maxLen]) (tms_box (GH.put_same _ _ _) (hRu'.out.mono hsub) (Nat.le_refl _) (by unfold maxLen; omega)), ?_, ?_, ?_, ?_, ?_⟩
      · rw [GH.put_other _ _ (by omega)]; exact hf0
      · rw [GH.put_other _ _ (by omega)]; exact hf1
      · refine (Below.heap_alloc _ _ _ (by rw [size_set4]; exact hlt0)).trans ?_
        exact blk_set4 _ _ _ _ HB0.out
      · refine (Below.heap_alloc _ _ _ (by rw [size_set4]; exact hwlt)).trans ?_
        rw [blk_far4 _ _ _ _ (by omega)]
        exact HB1.out
      · rw [lamsN_comm, show n - (j + 1) + 1 = n - j by omega]
        exact HU.out
    · have hjn : j = n := by omega
      have e0 := (blk_cells HB1.out 0).1
      have e1 := (blk_cells HB1.out 1).1
      have e2 := (blk_cells HB1.out 2).1
      have e3 := (blk_cells HB1.out 3).1
      have y0 := (blk_cells HB1.out 0).2
      have y1 := (blk_cells HB1.out 1).2
      have y2 := (blk_cells HB1.out 2).2
      have y3 := (blk_cells HB1.out 3).2
      simp at e0 e1 e2 e3
      have HJ := Lib.hid hjn
      clear hjn
      go_wp2_with fail
      have E1 := EC.store4 hf1 (by omega) (.int .i64 u.k) (.string u.s) (.int .i64 u.n) (.slice ua u.l.length uc)
      refine bodyPost_ret (v := .agg #[.int .i64 u.k, .string u.s, .int .i64 u.n, .slice ua u.l.length uc]) (by simp [results, Try.results21, go_sem, e0, e1, e2, e3]) rfl ⟨Hc, _, rfl, E1, ?_⟩
      have := HU.out
      rw [HJ.out, Nat.sub_self, Tm.lamsN] at this
      rw [← this]
      exact hRu'.out
/-- term.Lams. -/
theorem term_Lams (n : Int) (t : Tm) (cs : List Value) (H : GH) (w : World) (hn : n ≤ LB) (hA : Agree H w) (hR : Rep H t cs) :
    Calls Try.prog 21 #[.int .i64 n, .agg cs.toArray] w fun e w' => ∃ H' cs', e = .returned (.agg cs'.toArray) ∧ Pure H w H' w' ∧ Rep H' (t.lams n) cs' := by
  by_cases h0 : 0 ≤ n
  · obtain ⟨m, rfl⟩ := Int.eq_ofNat_of_zero_le h0
    have : t.lams (m : Int) = Tm.lamsN m t := by unfold Tm.lams; simp
    rw [this]
    exact lams_pos m t cs H w (by unfold LB at *; omega) hA hR
  · have hl : t.lams n = t := by
      unfold Tm.lams
      rw [show n.toNat = 0 by omega]
      rfl
    rw [hl]
    have hn0 : n < 0 := by omega
    have hn1 : n ≤ 0 := by omega
    have hR0 := Lib.hid hR
    obtain ⟨a, cap, rfl, -, -, -, -⟩ := hR.open_
    go_enter Try.func21, Try.ntmps21
    go_wp2_with fail
    refine wp_loop_rounds 1 ?_
    rw [rounds_succ]
    go_wp2_with fail
    exact bodyPost_ret (v := .agg #[.int .i64 t.k, .string t.s, .int .i64 t.n, .slice a t.l.length cap]) (by simp [results, Try.results21, go_sem]) rfl ⟨H, _, rfl, ((Ext.refl hA).alloc _).alloc _, hR0.out⟩
end Go.Proofs.Ytbdappbmlnpogaa
