/- term.each, Loose, Vars, Lams; slices.Index, Contains at int. -/
import Derived.Test.YtbdappbmlnpogaaSubst
namespace Go.Proofs.Ytbdappbmlnpogaa
open Go Go.Proofs Go.RowKit
set_option maxRecDepth 100000
def TellPost (B : Nat) (I : List (Tm × Int) → GH → World → Prop) (L : List (Tm × Int)) (H : GH) (w : World) (e : Ending) (w' : World) : Prop :=
  e = .returned noResult ∧ ∃ H', I L H' w' ∧ Ext (fun k => B ≤ k) H w H' w'
/-- What a function that is told leaves comes to: I says what holds when some were told; blocks from B on may be written. -/
def TellOK (g : FuncId) (caps : Array Value) (B N : Nat) (I : List (Tm × Int) → GH → World → Prop) (Q : Tm → Int → Prop) : Prop :=
  (∀ L H w w', I L H w → Below w.heap.size w w' → I L H w') ∧
  ∀ L u d cs H w, Q u d → L.length < N → I L H w → Agree H w → B ≤ w.heap.size → Rep H u cs →
    Calls Try.prog g (#[.agg cs.toArray, .int .i64 d] ++ caps) w (TellPost B I (L ++ [(u, d)]) H w)
def EachRel (B : Nat) (I : List (Tm × Int) → GH → World → Prop) (H : GH) (w : World) (L : List (Tm × Int)) (l : List Tm) (d : Int) (i : Value) (wr : World) : Prop :=
  ∃ (j : Nat) (Hc : GH), j ≤ l.length ∧ i = .int .i64 j ∧ Ext (fun k => B ≤ k) H w Hc wr ∧ I (L ++ Tm.leavesL (l.take j) d) Hc wr
theorem leavesL_take (l : List Tm) (d : Int) (j : Nat) (x : Tm) (h : l[j]? = some x) : Tm.leavesL (l.take (j + 1)) d = Tm.leavesL (l.take j) d ++ x.leaves d := by
  have hap : ∀ a b : List Tm, Tm.leavesL (a ++ b) d = Tm.leavesL a d ++ Tm.leavesL b d := by
    intro a b
    induction a with
    | nil => rw [List.nil_append, Tm.leavesL, List.nil_append]
    | cons x xs ih => rw [List.cons_append, Tm.leavesL, Tm.leavesL, ih, List.append_assoc]
  rw [List.take_add_one, h, hap]
  show _ ++ Tm.leavesL [x] d = _
  rw [Tm.leavesL, Tm.leavesL, List.append_nil]
theorem leavesL_take_le (l : List Tm) (d : Int) (j : Nat) : (Tm.leavesL (l.take j) d).length ≤ (Tm.leavesL l d).length := by
  have hap : ∀ a b : List Tm, Tm.leavesL (a ++ b) d = Tm.leavesL a d ++ Tm.leavesL b d := by
    intro a b
    induction a with
    | nil => rw [List.nil_append, Tm.leavesL, List.nil_append]
    | cons x xs ih => rw [List.cons_append, Tm.leavesL, Tm.leavesL, ih, List.append_assoc]
  have h := hap (l.take j) (l.drop j)
  rw [List.take_append_drop] at h
  rw [h, List.length_append]; omega
theorem leavesL_length (D : Int) (l : List Tm) (ih : ∀ t ∈ l, ∀ d, (t.leaves d).length ≤ t.size) : (Tm.leavesL l D).length ≤ Tm.sizeL l := by
  induction l with
  | nil => rw [Tm.leavesL]; simp
  | cons x xs ihx =>
    rw [Tm.leavesL, List.length_append, Tm.sizeL_cons]
    have h1 := ih x (by simp) D
    have h2 := ihx (fun t ht d => ih t (by simp [ht]) d)
    omega
theorem leaves_length (t : Tm) (d : Int) : (t.leaves d).length ≤ t.size := by
  induction t using Tm.ind generalizing d with
  | h k s n l ih =>
    rw [Tm.leaves, Tm.size_mk]
    split
    · have := leavesL_length (d + if k = 5 then 1 else 0) l ih
      omega
    · simp
set_option maxHeartbeats 2000000 in
theorem term_each (g : FuncId) (caps : Array Value) (eg : ∀ args w, (callFunc g args).run Try.prog w = .ok (.enter g args) w) (B N : Nat) (I : List (Tm × Int) → GH → World → Prop) (Q : Tm → Int → Prop) (hT : TellOK g caps B N I Q) (t : Tm) :
    ∀ (d : Int) (L : List (Tm × Int)) (cs : List Value) (H : GH) (w : World), (∀ p ∈ t.leaves d, Q p.1 p.2) → 0 ≤ d → d + t.size ≤ 4611686018427387904 → L.length + (t.leaves d).length ≤ N → I L H w → Agree H w → B ≤ w.heap.size → Rep H t cs →
    Calls Try.prog 37 #[.agg cs.toArray, .int .i64 d, .func (.func g) #[] caps] w (TellPost B I (L ++ t.leaves d) H w) := by
  induction t using Tm.ind with
  | h k s n l ih =>
    intro d L cs H w hQ hd0 hd1 hN hI hA hB hR
    by_cases hk : k = 5 ∨ k = 6
    · have hlv : (Tm.mk k s n l).leaves d = Tm.leavesL l (d + if k = 5 then 1 else 0) := by rw [Tm.leaves, if_pos hk]
      have hLu : ∀ u ∈ l, ∀ p ∈ u.leaves (d + if k = 5 then 1 else 0), Q p.1 p.2 := fun u hu p hp => hQ p (by rw [hlv]; exact leaves_of_mem hu _ hp)
      have hwi := Lib.hid (fun W => term_within (.mk k s n l) cs H W hR)
      have hkk : (Tm.mk k s n l).kids = l := by unfold Tm.kids; exact if_pos hk
      have hbb : (Tm.mk k s n l).by_ = (if k = 5 then 1 else 0) := rfl
      rw [hkk, hbb] at hwi
      rw [hlv] at hN ⊢
      rw [Tm.size_mk] at hd1
      have hlen := Tm.length_le_sizeL l
      have hbD : ∃ b : Int, (if k = 5 then 1 else 0) = b ∧ 0 ≤ b ∧ b ≤ 1 := ⟨_, rfl, by split <;> simp, by split <;> simp⟩
      obtain ⟨by_, hby, hbl0, hbl1⟩ := hbD
      rw [hby] at hwi hLu hN ⊢
      have ih' := Lib.hid (fun u hu => ih u hu (d + by_))
      clear hby hbb hkk hlv ih hQ
      obtain ⟨a, cap, rfl, -, -, -, hl⟩ := hR.open_
      simp only [Tm.k_mk, Tm.s_mk, Tm.n_mk, Tm.l_mk] at *
      have hko : ((k == 5) = true ∧ (k != 5) = false) ∨ ((k == 5) = false ∧ (k != 5) = true ∧ (k != 6) = false) := by
        rcases hk with h | h <;> subst h <;> simp
      have hd2 : d ≤ 4611686018427387904 := by omega
      have HI := Lib.hid hI
      have HT := Lib.hid hT
      have HLU := Lib.hid hLu
      clear hk hR hI hT hLu
      rcases hko with ⟨b1, b2⟩ | ⟨b1, b2, b3⟩
      all_goals
        go_enter Try.func37, Try.ntmps37
        go_wp2_with fail
        refine (hwi.out _).mono ?_
        rintro e w1 ⟨v, rfl, hTl, hb1⟩
        have hbw1 := (below_alloc _ _).trans (hb1.mono (below_alloc _ _).size)
        obtain ⟨va, vc, rfl, hlc, hvc⟩ := hTl.form
        unfold maxLen at hvc
        go_wp2_with fail
        go_loopw [29] (fun i wr => EachRel B I H w L l (d + by_) i wr) (fun i _ => l.length - (intOf i).toNat)
        case atStart => exact ⟨0, H, Nat.zero_le _, rfl, Ext.of_below hA hbw1, by rw [List.take_zero, Tm.leavesL, List.append_nil]; exact HT.out.1 _ _ _ _ HI.out hbw1⟩
        case round =>
          obtain ⟨j, Hc, hj, rfl, EC, hIc⟩ := hrel
          have HIC := Lib.hid hIc
          clear hIc
          by_cases hlt : j < l.length
          · have hx : l[j]? = some l[j] := List.getElem?_eq_getElem hlt
            obtain ⟨b, o, cs', rfl, hcl, hRu, hcell⟩ := hTl.get hx
            have hsu := Tm.size_le_sizeL (List.getElem_mem hlt)
            have hNj : (L ++ Tm.leavesL (l.take j) (d + by_)).length + (l[j].leaves (d + by_)).length ≤ N := by
              have h1 := leavesL_take_le l (d + by_) (j + 1)
              rw [leavesL_take l _ j _ hx, List.length_append] at h1
              rw [List.length_append]; omega
            have hcall := Lib.hid (fun W hI hW => ih'.out l[j] (List.getElem_mem hlt) (L ++ Tm.leavesL (l.take j) (d + by_)) cs' Hc W (HLU.out _ (List.getElem_mem hlt)) (by omega) (by omega) hNj hI hW)
            have HX := Lib.hid hx
            have HRU := Lib.hid (hRu.mono EC.sub)
            obtain ⟨ua, uc, rfl, -, -, -, -⟩ := hRu.open_
            have c0 := EC.agree.cell (GH.cell?_mono EC.sub (hcell 0 _ rfl))
            have c1 := EC.agree.cell (GH.cell?_mono EC.sub (hcell 1 _ rfl))
            have c2 := EC.agree.cell (GH.cell?_mono EC.sub (hcell 2 _ rfl))
            have c3 := EC.agree.cell (GH.cell?_mono EC.sub (hcell 3 _ rfl))
            simp only [Nat.add_zero, ← Nat.add_assoc] at c0 c1 c2 c3
            have hbl := World.block_lt_of_cell? wr _ c0
            clear hx hcell hcl hRu hNj
            go_wp2_with fail
            refine (hcall.out _ (HT.out.1 _ _ _ _ HIC.out (below_alloc _ _)) (EC.agree.alloc _) (Nat.le_trans hB (Nat.le_trans EC.size (by simp))) HRU.out).mono ?_
            rintro e w2 ⟨rfl, H2, hI2, X2⟩
            have E2 := (EC.alloc (.cells #[.int .i64 l[j].k, .string l[j].s, .int .i64 l[j].n, .slice ua l[j].l.length uc] 30)).trans X2 (fun k hk _ => hk)
            have HI2 := Lib.hid hI2
            clear hI2 X2 hcall
            go_wp2_with fail
            go_roundw
            case rel => exact ⟨j + 1, H2, by omega, by go_num, E2, by rw [leavesL_take l _ j _ HX.out, ← List.append_assoc]; exact HI2.out⟩
            case measure => simp [intOf]; omega
          · have hjl : j = l.length := by omega
            have HJ := Lib.hid hjl
            clear hjl
            go_wp2_with fail
            go_end0
            exact ⟨rfl, Hc, by have := HIC.out; rw [HJ.out, List.take_length] at this; exact this, EC⟩
    · have hlv : (Tm.mk k s n l).leaves d = [(.mk k s n l, d)] := by rw [Tm.leaves, if_neg hk]
      rw [hlv] at hQ hN ⊢
      have hcall := Lib.hid (fun W hI hW => hT.2 L (.mk k s n l) d cs H W (hQ (.mk k s n l, d) (by simp)) (by simp at hN; omega) hI hW)
      have HI := Lib.hid hI
      have HT := Lib.hid hT
      have HR := Lib.hid hR
      have b5 : (k != 5) = true := by rw [bne_iff_ne]; exact fun h => hk (.inl h)
      have b6 : (k != 6) = true := by rw [bne_iff_ne]; exact fun h => hk (.inr h)
      obtain ⟨a, cap, rfl, -, -, -, hl⟩ := hR.open_
      simp only [Tm.k_mk, Tm.s_mk, Tm.n_mk, Tm.l_mk] at *
      clear hk hI hT hR ih hQ
      go_enter Try.func37, Try.ntmps37
      go_wp2_with fail
      refine (hcall.out _ (HT.out.1 _ _ _ _ HI.out (below_alloc _ _)) (hA.alloc _) (Nat.le_trans hB (by simp)) HR.out).mono ?_
      rintro e w2 ⟨rfl, H2, hI2, X2⟩
      have E2 := ((Ext.refl hA).alloc (.cells #[.int .i64 k, .string s, .int .i64 n, .slice a l.length cap] 30)).trans X2 (fun k hk _ => hk)
      have HI2 := Lib.hid hI2
      clear hI2 X2 hcall
      go_wp2_with fail
      refine bodyPost_ret (results_none rfl _ _ _) rfl ⟨rfl, H2, HI2.out, E2⟩

/-! ### Loose -/
def LooseI (b : Nat) (L : List (Tm × Int)) (H : GH) (w : World) : Prop :=
  w.heap[b]? = some (.cells #[.int .i64 (L.foldl Tm.looseStep 0)] 3 (0, 0)) ∧ H b = none ∧ 0 ≤ L.foldl Tm.looseStep 0 ∧ L.foldl Tm.looseStep 0 ≤ 4611686018427387905
def LooseQ (u : Tm) (d : Int) : Prop := (u.k = 3 → 0 ≤ u.n ∧ u.n ≤ 4611686018427387904) ∧ 0 ≤ d ∧ d ≤ 4611686018427387904
theorem cell_lt {w : World} {b : Nat} {o : Obj} (h : w.heap[b]? = some o) : b < w.heap.size := (Array.getElem?_eq_some_iff.1 h).1
theorem blk_cell {w : World} {b : Nat} {v : Value} {T : TypeId} (h : w.heap[b]? = some (.cells #[v] T (0, 0))) : w.cell? ⟨b, 0, none⟩ = some v ∧ w.frozen? ⟨b, 0, none⟩ = false := by
  simp [World.cell?, World.frozen?, h]
theorem blk_set {w : World} {b : Nat} {v u : Value} {T : TypeId} (h : w.heap[b]? = some (.cells #[v] T (0, 0))) : (w.setCell ⟨b, 0, none⟩ u).heap[b]? = some (.cells #[u] T (0, 0)) := by
  simp [World.setCell, Array.getElem?_modify, h]
theorem loose_tell (b B N : Nat) (hbB : B ≤ b) : TellOK 74 #[.pointer (some ⟨b, 0, none⟩)] B N (LooseI b) LooseQ := by
  refine ⟨fun L H w w' ⟨h1, h2, h3⟩ hb => ⟨(hb.block b (cell_lt h1)).trans h1, h2, h3⟩, fun L u d cs H w ⟨hq, hd0, hd1⟩ _ ⟨h1, h2, h3, h4⟩ hA hB hR => ?_⟩
  obtain ⟨a, cap, rfl, -, -, -, -⟩ := hR.open_
  have hst : (L ++ [(u, d)]).foldl Tm.looseStep 0 = Tm.looseStep (L.foldl Tm.looseStep 0) (u, d) := by rw [List.foldl_append]; rfl
  have hlt := cell_lt h1
  have hpost : ∀ (V : Int), V = Tm.looseStep (L.foldl Tm.looseStep 0) (u, d) → 0 ≤ V → V ≤ 4611686018427387905 → ∀ w', w'.heap[b]? = some (.cells #[.int .i64 V] 3 (0, 0)) → Ext (fun k => B ≤ k) H w H w' → TellPost B (LooseI b) (L ++ [(u, d)]) H w (.returned noResult) w' := by
    intro V hV h0 h5 w' hw hx
    rw [← hst] at hV
    subst hV
    exact ⟨rfl, H, ⟨hw, h2, h0, h5⟩, hx⟩
  have HP := Lib.hid hpost
  have HH1 := Lib.hid h1
  generalize L.foldl Tm.looseStep 0 = acc at *
  obtain ⟨q0, q1⟩ := blk_cell h1
  clear hst h1 hpost
  by_cases hk : u.k = 3
  · have hb3 : (u.k == 3) = true := by rw [beq_iff_eq]; exact hk
    obtain ⟨n0, n1⟩ := hq hk
    have hs : Tm.looseStep acc (u, d) = max acc (u.n - d + 1) := by unfold Tm.looseStep; rw [if_pos hk]
    have hw1 := IntWalk.i64_in (u.n - d) (by omega)
    have hw2 := IntWalk.i64_in (u.n - d + 1) (by omega)
    have hE := fun (v : Value) => ((Ext.refl (O := fun k => B ≤ k) hA).setCell (p := ⟨b, 0, none⟩) h2 (fun _ => hbB) v).alloc (.cells #[.int .i64 u.k, .string u.s, .int .i64 u.n, .slice a u.l.length cap] 30)
    have hS := fun (v : Value) => (Below.heap_alloc (w.setCell ⟨b, 0, none⟩ v) (.cells #[.int .i64 u.k, .string u.s, .int .i64 u.n, .slice a u.l.length cap] 30) b (by simpa [World.setCell] using hlt)).trans (blk_set (u := v) HH1.out)
    have HHE := Lib.hid hE
    have HHS := Lib.hid hS
    have HSS := Lib.hid hs
    clear hs hk hq hE hS
    go_enter Try.func74, Try.ntmps74
    go_wp2_with fail
    all_goals
      go_end0
      exact HP.out _ (by rw [HSS.out]; omega) (by omega) (by omega) _ (HHS.out _) (HHE.out _)
  · have hb3 : (u.k == 3) = false := by rw [beq_eq_false_iff_ne]; exact hk
    have hs : Tm.looseStep acc (u, d) = acc := by unfold Tm.looseStep; rw [if_neg hk]
    have HSS := Lib.hid hs
    clear hs hk hq
    go_enter Try.func74, Try.ntmps74
    go_wp2_with fail
    go_end0
    exact HP.out _ HSS.out.symm h3 h4 _ ((Below.heap_alloc _ _ _ hlt).trans HH1.out) ((Ext.refl hA).alloc _)
/-- term.Loose. -/
theorem term_Loose (t : Tm) (cs : List Value) (H : GH) (w : World) (hQ : ∀ p ∈ t.leaves 0, LooseQ p.1 p.2) (hsz : t.size ≤ LB) (hA : Agree H w) (hR : Rep H t cs) :
    Calls Try.prog 55 #[.agg cs.toArray] w fun e w' => e = .returned (.int .i64 t.loose) ∧ Below w.heap.size w w' := by
  have hT := loose_tell (w.heap.size + 1) w.heap.size ((t.leaves 0).length) (by omega)
  have hlb : LB = 2513169434916 := rfl
  have hI := Lib.hid (fun W hI hA hB => term_each 74 _ (by intro args w; go_simp) w.heap.size _ _ _ hT t 0 [] cs H W hQ (by omega) (by omega) (by simp) hI hA hB hR)
  have hn := hA.free (k := w.heap.size + 1) (by omega)
  clear hT hlb
  obtain ⟨a, cap, rfl, -, -, -, -⟩ := hR.open_
  go_enter Try.func55, Try.ntmps55
  go_wp2_with fail
  refine (hI.out _ ⟨heap_alloc_at _ _ _ (by simp), hn, by simp, by simp⟩ ((hA.alloc _).alloc _) (by simp; omega)).mono ?_
  rintro e w1 ⟨rfl, H1, ⟨g1, g2, g3, g4⟩, X⟩
  rw [List.nil_append] at g1
  obtain ⟨q0, -⟩ := blk_cell g1
  have hY := Lib.hid (show (t.leaves 0).foldl Tm.looseStep 0 = t.loose from rfl)
  have E1 := (((Ext.refl (O := fun k => w.heap.size ≤ k) hA).alloc (.cells #[.int .i64 t.k, .string t.s, .int .i64 t.n, .slice a t.l.length cap] 30)).alloc (.cells #[.int .i64 0] 3)).trans X (fun k hk _ => hk)
  generalize (t.leaves 0).foldl Tm.looseStep 0 = Y at q0 hY
  clear g1 g3 g4 X hI
  go_wp2_with fail
  go_ret
  exact ⟨by rw [← hY.out]; rfl, E1.os, E1.tape, E1.output, E1.size, fun k hk => E1.block k hk (by omega)⟩
end Go.Proofs.Ytbdappbmlnpogaa
