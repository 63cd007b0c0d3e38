/- The law's laid: two stores of the same variables. A variable that hangs on those of its arguments that are kept: what it is, in full, of constants. No program in sight. A variable that hangs on those of its arguments that are kept, in full. No program in sight. What Prune makes of a store. No program in sight. The law InvertPrunes, walked. What an inversion leaves alone, on plain data. What an inversion leaves alone, on plain data: variables that are neither asked for nor within. -/
import Derived.Test.YtbdappbmlnpogaaBP13
namespace Go.Proofs.Ytbdappbmlnpogaa
open Go Go.RowKit
set_option maxRecDepth 100000
theorem StR.tight {H : GH} {w : World} {F : Nat → Prop} {s : Nat} {S : St} (h : StR H w F s S) : StR H w (fun k => F k ∧ k < w.heap.size) s S := by
  obtain ⟨vi, vt, h1, h2, h3, h4, h5, h6, h7⟩ := h
  exact ⟨vi, vt, h1, h2, ⟨h3, cell_lt h1⟩, h4, h5, fun g hg => ⟨⟨(h6 g hg).1, (h4.lt g hg).2⟩, (h6 g hg).2⟩, fun g hg => ⟨⟨(h7 g hg).1, (h5.lt g hg).2⟩, (h7 g hg).2⟩⟩
theorem StR.new {H : GH} {w : World} {r : Nat} (h : w.heap[r]? = some (.cells #[.slice none 0 0, .slice none 0 0] 64 (0, 0))) (hn : H r = none) : StR H w (fun k => k = r) r ⟨[], []⟩ :=
  ⟨_, _, h, hn, rfl, Own.nil _ _ _ _ _ _, Own.nil _ _ _ _ _ _, fun g hg => by simp [Value.ownBlock] at hg, fun g hg => by simp [Value.ownBlock] at hg⟩
/-- Two stores that have no cell in common, nor any that was there. -/
def Two (H : GH) (w : World) (s r : Nat) (S R : St) (wr : World) : Prop :=
  Pure H w H wr ∧ ∃ F1 F2 : Nat → Prop, (∀ k, F1 k → w.heap.size ≤ k) ∧ (∀ k, F2 k → w.heap.size ≤ k) ∧ (∀ k, F1 k → ¬ F2 k) ∧ StAt H wr F1 s S ∧ StR H wr F2 r R
theorem Two.left {H : GH} {w : World} {s r : Nat} {S R : St} {wr : World} (h : Two H w s r S R wr) : ∃ F, StAt H wr F s S ∧ ∀ w1 S', Ext F H wr H w1 → StAt H w1 (fun k => F k ∨ wr.heap.size ≤ k) s S' → Two H w s r S' R w1 := by
  obtain ⟨hp, F1, F2, h1, h2, h3, h4, h5⟩ := h
  refine ⟨fun k => F1 k ∧ k < wr.heap.size, h4.tight, fun w1 S' hx hs => ⟨hp.trans hx (fun k hk hlt => by have := h1 k hk.1; omega), _, _, ?_, ?_, ?_, hs.tight, h5.tight.ext hx (fun k hk hk2 => h3 k hk.1 hk2.1)⟩⟩
  · rintro k ⟨hk | hk, -⟩
    · exact h1 k hk.1
    · exact Nat.le_trans hp.size hk
  · exact fun k hk => h2 k hk.1
  · rintro k ⟨hk | hk, -⟩ hk2
    · exact h3 k hk.1 hk2.1
    · have := hk2.2; omega
theorem Two.right {H : GH} {w : World} {s r : Nat} {S R : St} {wr : World} (h : Two H w s r S R wr) : ∃ F, StR H wr F r R ∧ ∀ w1 R', Ext F H wr H w1 → StR H w1 (fun k => F k ∨ wr.heap.size ≤ k) r R' → Two H w s r S R' w1 := by
  obtain ⟨hp, F1, F2, h1, h2, h3, h4, h5⟩ := h
  refine ⟨fun k => F2 k ∧ k < wr.heap.size, h5.tight, fun w1 S' hx hs => ⟨hp.trans hx (fun k hk hlt => by have := h2 k hk.1; omega), _, _, ?_, ?_, ?_, h4.tight.ext hx (fun k hk hk2 => h3 k hk2.1 hk.1), hs.tight⟩⟩
  · exact fun k hk => h1 k hk.1
  · rintro k ⟨hk | hk, -⟩
    · exact h2 k hk.1
    · exact Nat.le_trans hp.size hk
  · rintro k hk2 ⟨hk | hk, -⟩
    · exact h3 k hk2.1 hk.1
    · have := hk2.2; omega
/-- What is laid, so far. -/
def LvOk (S : St) : Prop := ∀ i ∈ S.V, 0 ≤ i.lv
theorem LvOk.fresh {S : St} (h : LvOk S) (v : Int) : LvOk (S.fresh v) := fun i hi => by
  unfold St.fresh at hi
  rcases List.mem_append.1 hi with hi | hi
  · exact h i hi
  · simp at hi; subst hi; show 0 ≤ St.top0 v; unfold St.top0; split <;> omega
theorem LvOk.bind {S : St} (h : LvOk S) (x : Int) (t : Tm) : LvOk (S.bind x t).1 := fun i hi => by
  unfold St.bind at hi
  split at hi
  · exact h i hi
  · rename_i hc
    have hx : (S.info x).2 = true := by
      cases hv : (S.info x).2 with
      | true => rfl
      | false => exact absurd (.inl hv) hc
    rcases List.mem_or_eq_of_mem_set hi with hi | rfl
    · exact h i hi
    · show 0 ≤ (S.info x).1.lv
      exact h _ (St.info_mem hx)
def LaidInv (n j : Nat) (S : St) : Prop := S.Ok 4097 1000 ∧ S.V.length = n ∧ S.T.length ≤ j ∧ LvOk S
def LaidPost (H : GH) (w : World) (n : Nat) (e : Ending) (w' : World) : Prop :=
  ∃ s r S R, e = .returned (.tuple #[.pointer (some ⟨s, 0, none⟩), .pointer (some ⟨r, 0, none⟩)]) ∧ Two H w s r S R w' ∧ LaidInv n n S ∧ R.V.length = n ∧ R.T.length ≤ n
set_option maxHeartbeats 16000000 in
theorem law_laid (H : GH) (w : World) (v : Value) (l : List Inf) (hA : Agree H w) (hK : Vrs H v l) (h8 : l.length ≤ 8) (hsm : ∀ i ∈ l, SmallV i) :
    Calls Try.prog 9 #[v] w (LaidPost H w l.length) := by
  obtain ⟨a, cap, rfl, hll, hlm⟩ := hK.form
  unfold maxLen at hlm
  have hnew := Lib.hid (store_New H w hA)
  have HK := Lib.hid hK
  have HSM := Lib.hid hsm
  clear hK hsm
  go_enter Try.func9, Try.ntmps9
  go_wp2_with fail
  refine hnew.out.mono ?_
  rintro e w1 ⟨rfl, X1, S1⟩
  have hz1 : w.heap.size < w1.heap.size := S1.lt
  have T1 : Two H w w.heap.size w1.heap.size ⟨[], []⟩ ⟨[], []⟩ (w1.alloc (.cells #[.slice none 0 0, .slice none 0 0] 64 (0, 0))) :=
    ⟨X1.alloc _, _, _, fun k hk => by rw [hk]; exact Nat.le_refl _, fun k hk => by rw [hk]; omega, fun k h1 h2 => by omega, S1.below X1.agree (below_alloc _ _), StR.new (heap_alloc_new _ _) (X1.agree.free (Nat.le_refl _))⟩
  have HT1 := Lib.hid T1
  clear hnew X1 S1 hz1 T1
  go_wp2_with fail
  generalize w1.alloc (.cells #[.slice none 0 0, .slice none 0 0] 64 (0, 0)) = w2 at *
  generalize w.heap.size = s at *
  generalize w1.heap.size = r at *
  go_loopw [6] (fun i wr => ∃ (j : Nat) (S R : St), j ≤ l.length ∧ i = .int .i64 j ∧ Two H w s r S R wr ∧ (S.Ok 4097 1000 ∧ LvOk S) ∧ S.V.length = j ∧ S.T.length = 0 ∧ R.V.length = j ∧ R.T.length = 0) (fun i _ => l.length - (intOf i).toNat)
  case atStart => exact ⟨0, _, _, Nat.zero_le _, rfl, HT1.out, ⟨⟨by omega, fun i hi => by simp at hi⟩, fun i hi => by simp at hi⟩, rfl, rfl, rfl, rfl⟩
  case round =>
    obtain ⟨j, S, R, hj, rfl, hT, hok, hSV, hST, hRV, hRT⟩ := hrel
    have HT := Lib.hid hT
    have HP := Lib.hid hT.1
    by_cases hlt : j < l.length
    · obtain ⟨x, hx⟩ : ∃ x, l[j]? = some x := ⟨_, List.getElem?_eq_getElem hlt⟩
      obtain ⟨b, o, cs6, rfl, -, ⟨cs, rfl, -, hlv⟩, hcell⟩ := HK.out.get hx
      have hc0 := hcell 0 _ rfl
      simp only [Nat.add_zero, ← Nat.add_assoc] at hc0
      have c0 := HP.out.agree.cell hc0
      have hbl := World.block_lt_of_cell? wr _ c0
      obtain ⟨F1, hS1, hL⟩ := hT.left
      have hfr := Lib.hid (store_Fresh H wr s S x.lv HP.out.agree hS1 hlv (by omega))
      have HL := Lib.hid hL
      have HLV := Lib.hid hlv
      have HC0 := Lib.hid hc0
      clear hcell hx hT hS1 hL hlv hc0
      go_wp2_with fail
      refine hfr.out.mono ?_
      rintro e w2 ⟨rfl, X2, S2⟩
      have hT := HL.out _ _ X2 S2
      have HT2 := Lib.hid hT
      have HP2 := Lib.hid hT.1
      have d0 := HP2.out.agree.cell HC0.out
      have hbl2 := World.block_lt_of_cell? w2 _ d0
      obtain ⟨F2, hS2, hL2⟩ := hT.right
      have hfr2 := Lib.hid (rstore_Fresh H w2 r R x.lv HP2.out.agree hS2 HLV.out (by omega))
      have HL2 := Lib.hid hL2
      clear hT hS2 hL2 c0 hbl X2 S2 hfr
      go_wp2_with fail
      refine hfr2.out.mono ?_
      rintro e w3 ⟨rfl, X3, S3⟩
      have HT3 := Lib.hid (HL2.out _ _ X3 S3)
      clear d0 hbl2 X3 S3 hfr2
      have hok2 := And.intro (St.fresh_ok hok.1 x.lv) (hok.2.fresh x.lv)
      go_wp2_with fail
      go_roundw
      case rel => exact ⟨j + 1, _, _, by omega, by go_num, HT3.out, hok2, by unfold St.fresh; simp; omega, hST, by unfold St.fresh; simp; omega, hRT⟩
      case measure => simp [intOf]; omega
    · have hjl : j = l.length := by omega
      subst hjl
      have hd3 : decide ((l.length : Int) < (l.length : Int)) = false := decide_eq_false (by omega)
      clear hT hlt
      go_wp2_with fail
      go_loopw [7] (fun i wq => ∃ (j : Nat) (S R : St), j ≤ l.length ∧ i = .int .i64 j ∧ Two H w s r S R wq ∧ LaidInv l.length j S ∧ R.V.length = l.length ∧ R.T.length ≤ j) (fun i _ => l.length - (intOf i).toNat)
      case atStart => exact ⟨0, S, R, Nat.zero_le _, rfl, HT.out, ⟨hok.1, hSV, by omega, hok.2⟩, hRV, by omega⟩
      case round =>
        obtain ⟨k, S, R, hk, rfl, hT, hI, hRV, hRT⟩ := hrel
        have HT := Lib.hid hT
        have HP := Lib.hid hT.1
        have HI := Lib.hid hI
        clear HT hI
        by_cases hlt : k < l.length
        · obtain ⟨x, hx⟩ : ∃ x, l[k]? = some x := ⟨_, List.getElem?_eq_getElem hlt⟩
          have hxs := Lib.hid (HSM.out x (List.mem_of_getElem? hx))
          obtain ⟨b, o, cs6, rfl, -, ⟨cs, rfl, hR, hlv⟩, hcell⟩ := HK.out.get hx
          have HRx := Lib.hid hR
          obtain ⟨ta, tc, rfl, -, -, -, -⟩ := hR.open_
          have e1 := hcell 1 _ rfl
          have e2 := hcell 2 _ rfl
          have e3 := hcell 3 _ rfl
          have e4 := hcell 4 _ rfl
          have e5 := hcell 5 _ rfl
          simp only [← Nat.add_assoc] at e1 e2 e3 e4 e5
          have HE := Lib.hid (And.intro e1 (And.intro e2 (And.intro e3 (And.intro e4 e5))))
          have c1 := HP.out.agree.cell e1
          have c2 := HP.out.agree.cell e2
          have c3 := HP.out.agree.cell e3
          have c4 := HP.out.agree.cell e4
          have c5 := HP.out.agree.cell e5
          have hbl := World.block_lt_of_cell? wr _ c1
          clear hcell hx hR hlv e1 e2 e3 e4 e5
          cases hbd : x.bd with
          | false =>
            rw [hbd] at c1
            have HT := Lib.hid hT
            clear hT
            go_wp2_with fail
            go_roundw
            case rel => exact ⟨k + 1, S, R, by omega, by go_num, HT.out, ⟨HI.out.1, HI.out.2.1, by have := HI.out.2.2.1; omega, HI.out.2.2.2⟩, hRV, by omega⟩
            case measure => simp [intOf]; omega
          | true =>
            rw [hbd] at c1
            obtain ⟨F1, hS1, hL⟩ := hT.left
            have hST := HI.out.2.2.1
            have hki : I64 (k : Int) := by unfold I64; omega
            have HKI := Lib.hid hki
            have hbi := Lib.hid (store_Bind H wr s S k x.vl _ HP.out.agree hS1 HRx.out hki (by have := hxs.out.1; have : SB = 1073741824 := rfl; omega) (by omega))
            have HL := Lib.hid hL
            clear hT hS1 hL hki
            go_wp2_with fail
            refine hbi.out.mono ?_
            rintro e w4 ⟨rfl, X2, S2⟩
            have hT := HL.out _ _ X2 S2
            have HP2 := Lib.hid hT.1
            have d2 := HP2.out.agree.cell HE.out.2.1
            have d3 := HP2.out.agree.cell HE.out.2.2.1
            have d4 := HP2.out.agree.cell HE.out.2.2.2.1
            have d5 := HP2.out.agree.cell HE.out.2.2.2.2
            have hbl2 := World.block_lt_of_cell? w4 _ d2
            obtain ⟨F2, hS2, hL2⟩ := hT.right
            have hbi2 := Lib.hid (rstore_Bind H w4 r R k x.vl _ HP2.out.agree hS2 HRx.out HKI.out (by omega))
            have HL2 := Lib.hid hL2
            have hin := St.bind_ok HI.out.1 k x.vl (by have := hxs.out.1; omega) hxs.out.2
            have HIN := Lib.hid (show LaidInv l.length (k + 1) (S.bind k x.vl).1 from ⟨hin.1, hin.2.1.trans HI.out.2.1, by have := hin.2.2; omega, HI.out.2.2.2.bind _ _⟩)
            generalize S.bind k x.vl = SB2 at *
            obtain ⟨S', q⟩ := SB2
            clear hT hS2 hL2 c1 c2 c3 c4 c5 hbl X2 S2 hbi hin
            go_wp2_with fail
            refine hbi2.out.mono ?_
            rintro e w5 ⟨c, R', rfl, hRV', hRT', X3, S3⟩
            have HT3 := Lib.hid (HL2.out _ _ X3 S3)
            clear d2 d3 d4 d5 hbl2 X3 S3 hbi2
            go_wp2_with fail
            go_roundw
            case rel => exact ⟨k + 1, S', R', by omega, by go_num, HT3.out, HIN.out, by omega, by omega⟩
            case measure => simp [intOf]; omega
        · have hd4 : decide ((k : Int) < (l.length : Int)) = false := decide_eq_false (by omega)
          have hkl : k = l.length := by omega
          rw [hkl] at HI hRT
          clear hd3
          go_wp2_with fail
          refine bodyPost_ret (v := .tuple #[.pointer (some ⟨s, 0, none⟩), .pointer (some ⟨r, 0, none⟩)]) (by simp [results, Try.results9, go_sem]) rfl ?_
          exact ⟨s, r, S, R, rfl, hT, HI.out, hRV, hRT⟩
end Go.Proofs.Ytbdappbmlnpogaa
namespace Go.Proofs.Ytbdappbmlnpogaa
open Tm
/-- A constant that may be. -/
def IsC (c : Tm) : Prop := c.k = 0 ∧ c.valid = true
theorem IsC.form {c : Tm} (h : IsC c) : ∃ s, c = .mk 0 s 0 [] := by
  obtain ⟨k, s, n, l⟩ := c
  obtain ⟨hk, hv⟩ := h
  simp only [k_mk] at hk
  subst hk
  have := ((valid_iff ..).1 hv).1
  unfold ok1 at this
  simp at this
  obtain ⟨⟨-, rfl⟩, rfl⟩ := this
  exact ⟨s, rfl⟩
/-- Those that are kept. -/
def keptL : List Bool → List Tm → List Tm
  | b :: bs, c :: cs => if b then c :: keptL bs cs else keptL bs cs
  | _, _ => []
/-- What the variable hangs on when k arguments are in their places. -/
def onK (l : List Tm) (m k : Nat) : List Bool → Nat → List Tm
  | [], _ => []
  | b :: bs, i => if b then (if i < k then l.getD i zero else leafT 3 ((m : Int) - 1 - i)) :: onK l m k bs (i + 1) else onK l m k bs (i + 1)
theorem onK_zero (l : List Tm) (m : Nat) (bs : List Bool) : ∀ i : Nat, onK l m 0 bs i = St.pruneOn m bs i := by
  induction bs with
  | nil => intro i; rfl
  | cons b bs ih =>
    intro i
    rw [onK, St.pruneOn, ih (i + 1), if_neg (Nat.not_lt_zero i)]
    rfl
theorem onK_all (l : List Tm) (m : Nat) (bs : List Bool) : ∀ i : Nat, i + bs.length = l.length → l.length ≤ m → onK l m m bs i = keptL bs (l.drop i) := by
  induction bs with
  | nil => intro i _ _; rw [onK]; cases l.drop i <;> rfl
  | cons b bs ih =>
    intro i h hm
    simp only [List.length_cons] at h
    have hi : i < l.length := by omega
    rw [onK, ih (i + 1) (by omega) hm, List.drop_eq_getElem_cons hi, keptL, if_pos (show i < m by omega)]
    simp [List.getD_eq_getElem?_getD, List.getElem?_eq_getElem hi]
theorem onK_emp (l : List Tm) (m k : Nat) (bs : List Bool) : ∀ i, onK l m k bs i = [] ↔ onK l m 0 bs i = [] := by
  induction bs with
  | nil => intro i; simp [onK]
  | cons b bs ih =>
    intro i
    rw [onK, onK]
    cases b with
    | true => simp
    | false => simpa using ih (i + 1)
theorem onK_len (l : List Tm) (m k : Nat) (bs : List Bool) : ∀ i, (onK l m k bs i).length ≤ bs.length := by
  induction bs with
  | nil => intro i; simp [onK]
  | cons b bs ih =>
    intro i
    have := ih (i + 1)
    rw [onK]
    cases b <;> simp <;> omega
/-- What stands in it. -/
theorem onK_mem (l : List Tm) (m k : Nat) (hl : ∀ c ∈ l, IsC c) (hk : k ≤ l.length) (bs : List Bool) : ∀ i, i + bs.length ≤ m → ∀ u ∈ onK l m k bs i, IsC u ∨ ∃ q : Nat, u = leafT 3 q ∧ q + k < m := by
  induction bs with
  | nil => intro i _ u hu; simp [onK] at hu
  | cons b bs ih =>
    intro i hi u hu
    simp only [List.length_cons] at hi
    have hrec := ih (i + 1) (by omega)
    rw [onK] at hu
    split at hu
    · rcases List.mem_cons.1 hu with rfl | hu
      · split
        · rename_i h
          have hil : i < l.length := by omega
          refine .inl ?_
          rw [List.getD_eq_getElem?_getD, List.getElem?_eq_getElem hil]
          exact hl _ (List.getElem_mem hil)
        · exact .inr ⟨m - 1 - i, by congr 1; omega, by omega⟩
      · exact hrec u hu
    · exact hrec u hu
theorem c_walk {c : Tm} (h : IsC c) (f : Tm → Int → Tm) (d : Int) : c.walk f d = f c d := by
  obtain ⟨s, rfl⟩ := h.form
  rw [walk_mk, if_neg (by decide)]
theorem c_shift {c : Tm} (h : IsC c) (a b : Int) : c.shift a b = c := by
  unfold shift
  rw [c_walk h]
  unfold shiftF
  rw [if_neg (by rw [h.1]; simp)]
theorem c_subst {c u : Tm} (h : IsC c) (d : Int) : c.walk (substF 0 u) d = c := by
  rw [c_walk h]
  unfold substF
  rw [if_pos (.inl (by rw [h.1]; decide))]
/-- An argument goes into its place. -/
theorem onK_subst (l : List Tm) (m k : Nat) (hl : ∀ c ∈ l, IsC c) (hkl : k < l.length) (hm : l.length = m) (bs : List Bool) : ∀ i, i + bs.length ≤ m →
    (onK l m k bs i).map (fun u => u.walk (substF 0 (l.getD k zero)) ((m - 1 - k : Nat) : Int)) = onK l m (k + 1) bs i := by
  have hck : IsC (l.getD k zero) := by
    rw [List.getD_eq_getElem?_getD, List.getElem?_eq_getElem hkl]
    exact hl _ (List.getElem_mem hkl)
  induction bs with
  | nil => intro i _; simp [onK]
  | cons b bs ih =>
    intro i hi
    simp only [List.length_cons] at hi
    have hrec := ih (i + 1) (by omega)
    rw [onK, onK]
    cases b with
    | false => simpa using hrec
    | true =>
      simp only [if_true, List.map_cons, hrec]
      congr 1
      by_cases h1 : i < k
      · have hil : i < l.length := by omega
        rw [if_pos h1, if_pos (by omega)]
        refine c_subst ?_ _
        rw [List.getD_eq_getElem?_getD, List.getElem?_eq_getElem hil]
        exact hl _ (List.getElem_mem hil)
      · rw [if_neg h1]
        have hw : (leafT 3 ((m : Int) - 1 - i)).walk (substF 0 (l.getD k zero)) ((m - 1 - k : Nat) : Int) = substF 0 (l.getD k zero) (leafT 3 ((m : Int) - 1 - i)) ((m - 1 - k : Nat) : Int) := by
          unfold leafT
          rw [walk_mk, if_neg (by decide)]
        rw [hw]
        by_cases h2 : i = k
        · subst h2
          rw [if_pos (show i < i + 1 by omega)]
          unfold substF
          rw [if_neg (show ¬ ((leafT 3 ((m : Int) - 1 - i)).k ≠ 3 ∨ (leafT 3 ((m : Int) - 1 - i)).n < ((m - 1 - i : Nat) : Int) + 0) by simp only [leafT, k_mk, n_mk]; omega), if_pos (show (leafT 3 ((m : Int) - 1 - i)).n = ((m - 1 - i : Nat) : Int) + 0 by simp only [leafT, n_mk]; omega)]
          exact c_shift hck _ _
        · rw [if_neg (show ¬ i < k + 1 by omega)]
          unfold substF
          rw [if_pos (show ((leafT 3 ((m : Int) - 1 - i)).k ≠ 3 ∨ (leafT 3 ((m : Int) - 1 - i)).n < ((m - 1 - k : Nat) : Int) + 0) by simp only [leafT, k_mk, n_mk]; omega)]
/-! ### abstractions -/
theorem lamsN_head (n : Nat) : ∀ t : Tm, lamsN (n + 1) t = .mk 5 ByteArray.empty 0 [lamsN n t] := by
  induction n with
  | zero => intro t; rfl
  | succ n ih => intro t; rw [lamsN, ih]; rfl
theorem lamsN_walk (f : Tm → Int → Tm) (n : Nat) : ∀ (t : Tm) (d : Int), (lamsN n t).walk f d = lamsN n (t.walk f (d + n)) := by
  induction n with
  | zero => intro t d; simp [lamsN]
  | succ n ih =>
    intro t d
    rw [lamsN, ih, walk_mk, if_pos (.inl rfl), lamsN]
    unfold remake
    rw [if_neg (fun h => absurd h.1 (by decide))]
    simp only [walkL_cons, walkL_nil, if_true]
    rw [show d + (n : Int) + 1 = d + ((n + 1 : Nat) : Int) by push_cast; omega]
theorem lamsN_valid (n : Nat) : ∀ t : Tm, t.valid = true → (lamsN n t).valid = true := by
  induction n with
  | zero => intro t h; exact h
  | succ n ih =>
    intro t h
    rw [lamsN]
    refine ih _ ?_
    rw [valid_iff]
    exact ⟨by simp [ok1], by simpa using h⟩
theorem lamsN_leaves (n : Nat) : ∀ (t : Tm) (d : Int), (lamsN n t).leaves d = t.leaves (d + n) := by
  induction n with
  | zero => intro t d; simp [lamsN]
  | succ n ih =>
    intro t d
    rw [lamsN, ih, leaves, if_pos (.inl rfl), leavesL, leavesL, List.append_nil, if_pos rfl]
    congr 1
    push_cast; omega
/-- What the variable's value is below its abstractions. -/
def bodyOf (n : Nat) (on : List Tm) : Tm := apply (leafT 4 n) on
theorem bodyOf_form (n : Nat) (on : List Tm) : bodyOf n on = if on = [] then leafT 4 n else .mk 6 ByteArray.empty 0 (leafT 4 n :: on) := by
  unfold bodyOf apply
  split
  · rfl
  · rw [if_neg (by unfold leafT; simp)]
theorem bodyOf_valid (n : Nat) (on : List Tm) (hn : n ≤ 4611686018427387904) (ho : ∀ u ∈ on, u.valid = true) : (bodyOf n on).valid = true := by
  have hh : (leafT 4 n).valid = true := by
    unfold leafT
    rw [valid_iff]
    refine ⟨?_, by simp⟩
    unfold ok1 far
    simp
    omega
  rw [bodyOf_form]
  split
  · exact hh
  · rename_i h
    rw [valid_iff]
    refine ⟨?_, fun u hu => ?_⟩
    · unfold ok1
      cases on with
      | nil => exact absurd rfl h
      | cons a b => simp [leafT]
    · rcases List.mem_cons.1 hu with rfl | hu
      · exact hh
      · exact ho u hu
theorem bodyOf_size (n : Nat) (on : List Tm) : (bodyOf n on).size ≤ 2 + sizeL on := by
  rw [bodyOf_form]
  split
  · rw [size_leafT]; omega
  · rw [size_mk, sizeL_cons, size_leafT]; omega
theorem sizeL_ones (l : List Tm) (h : ∀ u ∈ l, u.size = 1) : sizeL l = l.length := by
  induction l with
  | nil => simp
  | cons x xs ih => rw [sizeL_cons, h x (by simp), ih (fun u hu => h u (by simp [hu]))]; simp; omega
end Go.Proofs.Ytbdappbmlnpogaa
namespace Go.Proofs.Ytbdappbmlnpogaa
open Tm
theorem bodyOf_walk (n : Nat) (on : List Tm) (f : Tm → Int → Tm) (d : Int) (hf : f (leafT 4 n) d = leafT 4 n) : (bodyOf n on).walk f d = bodyOf n (on.map fun u => u.walk f d) := by
  have hh : (leafT 4 n).walk f d = leafT 4 n := by
    unfold leafT at hf ⊢
    rw [walk_mk, if_neg (by decide)]
    exact hf
  rw [bodyOf_form, bodyOf_form]
  by_cases h : on = []
  · subst h
    simpa using hh
  · rw [if_neg h, if_neg (by simpa using h), walk_mk, if_pos (.inr rfl)]
    unfold remake
    rw [show d + (if (6 : Int) = 5 then 1 else 0) = d by simp]
    rw [if_neg (by rw [walkL_cons, List.getD_cons_zero, hh]; intro h; exact absurd h.2.2.1 (by simp [leafT]))]
    simp [hh, walkL_map]
theorem subst_h (n : Nat) (u : Tm) (d : Int) : substF 0 u (leafT 4 n) d = leafT 4 n := by
  unfold substF
  rw [if_pos (.inl (by simp [leafT]))]
theorem getD_isC {l : List Tm} (hl : ∀ c ∈ l, IsC c) {k : Nat} (hk : k < l.length) : IsC (l.getD k zero) := by
  rw [List.getD_eq_getElem?_getD, List.getElem?_eq_getElem hk]
  exact hl _ (List.getElem_mem hk)
theorem IsC.size {c : Tm} (h : IsC c) : c.size = 1 := by
  obtain ⟨s, rfl⟩ := h.form
  rw [size_mk]; rfl
theorem IsC.gsize {c : Tm} (h : IsC c) : c.gsize = 1 := by
  rw [gsize_valid c h.2, h.size]; rfl
theorem leaf_valid (q : Nat) (h : q ≤ 4611686018427387904) : (leafT 3 q).valid = true := by
  unfold leafT
  rw [valid_iff]
  refine ⟨?_, by simp⟩
  unfold ok1 far
  simp
  omega
theorem onK_valid {l : List Tm} {m k : Nat} (hl : ∀ c ∈ l, IsC c) (hk : k ≤ l.length) (hm : m ≤ 6) {bs : List Bool} (hb : bs.length ≤ m) : ∀ u ∈ onK l m k bs 0, u.valid = true ∧ u.size = 1 := by
  intro u hu
  rcases onK_mem l m k hl hk bs 0 (by omega) u hu with h | ⟨q, rfl, hq⟩
  · exact ⟨h.2, h.size⟩
  · exact ⟨leaf_valid q (by omega), size_leafT _ _⟩
theorem contract_one (n m k : Nat) (l : List Tm) (bs : List Bool) (hl : ∀ c ∈ l, IsC c) (hm : l.length = m) (hm6 : m ≤ 6) (hb : bs.length = m) (hk : k < m) (hn : n ≤ 4611686018427387904) :
    contractV (lamsN (m - 1 - k) (bodyOf n (onK l m k bs 0))) (l.getD k zero) = (lamsN (m - 1 - k) (bodyOf n (onK l m (k + 1) bs 0)), 0) := by
  have hc := getD_isC hl (show k < l.length by omega)
  have ho := onK_valid (k := k) hl (by omega) hm6 (bs := bs) (by omega)
  have hv := lamsN_valid (m - 1 - k) _ (bodyOf_valid n (onK l m k bs 0) hn (fun u hu => (ho u hu).1))
  have hlen := onK_len l m k bs 0
  have hsz : (lamsN (m - 1 - k) (bodyOf n (onK l m k bs 0))).size ≤ 14 := by
    rw [lams_size]
    have h1 := bodyOf_size n (onK l m k bs 0)
    have h2 := sizeL_ones (onK l m k bs 0) (fun u hu => (ho u hu).2)
    omega
  have hg := gsize_le (lamsN (m - 1 - k) (bodyOf n (onK l m k bs 0)))
  have hoc := occurs_le (lamsN (m - 1 - k) (bodyOf n (onK l m k bs 0))) 0
  unfold contractV
  rw [if_pos ⟨hv, hc.2⟩]
  unfold contract
  rw [hc.gsize, if_neg (by omega)]
  congr 1
  unfold subst
  rw [lamsN_walk, Int.zero_add, bodyOf_walk _ _ _ _ (subst_h _ _ _), onK_subst l m k hl (by omega) hm bs 0 (by omega)]
namespace St
theorem step_stop (S : St) (n : Nat) (on : List Tm) (hv : (S.value (leafT 4 n)).2 = false) : S.step (bodyOf n on) = (bodyOf n on, false, 0) := by
  rw [bodyOf_form]
  split
  · unfold step
    rw [if_neg (by rw [hv]; simp), if_pos (by simp [leafT])]
  · unfold step
    rw [if_neg (by simp [value]), if_neg (by simp)]
    simp only [l_mk, List.getD_cons_zero]
    rw [if_neg (by rw [hv]; simp), if_pos (by simp [leafT])]
theorem step_go (S : St) (n m k : Nat) (l : List Tm) (bs : List Bool) (hl : ∀ c ∈ l, IsC c) (hm : l.length = m) (hm6 : m ≤ 6) (hb : bs.length = m) (hk : k < m) (hn : n ≤ 4611686018427387904) :
    S.step (apply (lamsN (m - k) (bodyOf n (onK l m k bs 0))) (l.drop k)) = (apply (lamsN (m - (k + 1)) (bodyOf n (onK l m (k + 1) bs 0))) (l.drop (k + 1)), true, 0) := by
  have hd : l.drop k = l.getD k zero :: l.drop (k + 1) := by
    rw [List.drop_eq_getElem_cons (show k < l.length by omega), List.getD_eq_getElem?_getD, List.getElem?_eq_getElem (show k < l.length by omega)]; rfl
  have hc := contract_one n m k l bs hl hm hm6 hb hk hn
  rw [hd, show m - k = (m - 1 - k) + 1 by omega, lamsN_head, show m - (k + 1) = m - 1 - k by omega]
  have ha : apply (.mk 5 ByteArray.empty 0 [lamsN (m - 1 - k) (bodyOf n (onK l m k bs 0))]) (l.getD k zero :: l.drop (k + 1)) = .mk 6 ByteArray.empty 0 (.mk 5 ByteArray.empty 0 [lamsN (m - 1 - k) (bodyOf n (onK l m k bs 0))] :: l.getD k zero :: l.drop (k + 1)) := by
    unfold apply
    rw [if_neg (by simp), if_neg (by simp)]
  rw [ha]
  unfold step
  rw [if_neg (by simp [value]), if_neg (by simp)]
  simp only [l_mk, List.getD_cons_zero, List.getD_cons_succ, List.drop_succ_cons, List.drop_zero]
  rw [if_neg (by simp [value]), if_neg (by simp), hc]
theorem head_go (S : St) (n m : Nat) (l : List Tm) (bs : List Bool) (hl : ∀ c ∈ l, IsC c) (hm : l.length = m) (hm6 : m ≤ 6) (hb : bs.length = m) (hn : n ≤ 4611686018427387904) (hv : (S.value (leafT 4 n)).2 = false) (r : Nat) :
    ∀ (k : Nat) (f : Int), k + r = m → (r : Int) ≤ f → S.head (apply (lamsN (m - k) (bodyOf n (onK l m k bs 0))) (l.drop k)) f = (bodyOf n (onK l m m bs 0), 0, f - r) := by
  induction r with
  | zero =>
    intro k f hk hf
    have hkm : k = m := by omega
    subst hkm
    rw [Nat.sub_self, List.drop_of_length_le (by omega)]
    have ha : apply (lamsN 0 (bodyOf n (onK l k k bs 0))) [] = bodyOf n (onK l k k bs 0) := rfl
    rw [ha, head_eq, step_stop S n _ hv]
    simp
  | succ r ih =>
    intro k f hk hf
    rw [head_eq, step_go S n m k l bs hl hm hm6 hb (by omega) hn]
    simp only [Bool.true_eq_false, if_false, ne_eq, not_true, false_or]
    rw [if_neg (by push_cast at hf; omega), ih (k + 1) (f - 1) (by omega) (by push_cast at hf; omega)]
    congr 2
    push_cast; omega
theorem full_c (S : St) {c : Tm} (hc : IsC c) (m : Nat) (f : Int) (hf : 0 < f) : fullF S (m + 1) c f = (c, 0, f - 1) := by
  obtain ⟨s, rfl⟩ := hc.form
  have hs : S.step (.mk 0 s 0 []) = (.mk 0 s 0 [], false, 0) := by
    unfold step
    rw [if_neg (by simp [value]), if_pos (by simp)]
  have hh : S.head (.mk 0 s 0 []) (f - 1) = (.mk 0 s 0 [], 0, f - 1) := by rw [head_eq, hs]; simp
  rw [fullF, if_neg (by omega), hh]
  simp [kidsF, mapF]
theorem map_cs (S : St) (m : Nat) (cs : List Tm) (hc : ∀ c ∈ cs, IsC c) : ∀ (acc : List Tm) (f : Int), (cs.length : Int) ≤ f → mapF (fullF S (m + 1)) acc cs f = (acc ++ cs, 0, f - cs.length) := by
  induction cs with
  | nil => intro acc f _; simp [mapF]
  | cons c cs ih =>
    intro acc f hf
    simp only [List.length_cons] at hf
    rw [mapF, full_c S (hc c (by simp)) m f (by push_cast at hf; omega)]
    simp only [ne_eq, not_true, if_false]
    rw [ih (fun u hu => hc u (by simp [hu])) _ _ (by push_cast at hf; omega)]
    simp only [List.append_assoc, List.singleton_append, List.length_cons]
    congr 2
    push_cast; omega
theorem kids_body (S : St) (m n : Nat) (cs : List Tm) (hc : ∀ c ∈ cs, IsC c) (f : Int) (hf : (cs.length : Int) ≤ f) : kidsF (fullF S (m + 1)) (bodyOf n cs) f = ((bodyOf n cs).l, 0, f - cs.length) := by
  rw [bodyOf_form]
  split
  · rename_i h
    subst h
    simp [kidsF, leafT, mapF]
  · rw [kidsF, if_pos (by simp)]
    simp only [l_mk, List.take_succ_cons, List.take_zero, List.drop_succ_cons, List.drop_zero]
    rw [map_cs S m cs hc _ _ hf]
    rfl
end St
theorem short_c {c : Tm} (h : IsC c) : c.short = c := by
  obtain ⟨s, rfl⟩ := h.form
  rw [short]; simp
theorem short_body (n : Nat) (cs : List Tm) (hc : ∀ c ∈ cs, IsC c) : (bodyOf n cs).shortV = bodyOf n cs := by
  unfold shortV
  split
  · have hh : (leafT 4 n).short = leafT 4 n := by unfold leafT; rw [short]; simp
    have hm : cs.map short = cs := by
      rename_i hvv
      clear hvv
      induction cs with
      | nil => rfl
      | cons c cs ih => rw [List.map_cons, short_c (hc c (by simp)), ih (fun u hu => hc u (by simp [hu]))]
    have e := bodyOf_form n cs
    rw [e]
    split
    · exact hh
    · rename_i h
      rw [short, if_neg (by decide), if_pos rfl, shortL_map, List.map_cons, hh, hm]
      simp only [List.getD_cons_zero, List.drop_succ_cons, List.drop_zero]
      unfold apply
      rw [if_neg h, if_neg (by simp [leafT])]
  · rfl
theorem kept_isC (bs : List Bool) : ∀ (l : List Tm), (∀ c ∈ l, IsC c) → ∀ c ∈ keptL bs l, IsC c := by
  induction bs with
  | nil => intro l _ c hc; cases l <;> simp [keptL] at hc
  | cons b bs ih =>
    intro l hl c hc
    cases l with
    | nil => simp [keptL] at hc
    | cons u us =>
      rw [keptL] at hc
      have hr := ih us (fun c h => hl c (by simp [h]))
      split at hc
      · rcases List.mem_cons.1 hc with rfl | hc
        · exact hl _ (by simp)
        · exact hr c hc
      · exact hr c hc
theorem kept_len (bs : List Bool) : ∀ (l : List Tm), (keptL bs l).length ≤ l.length := by
  induction bs with
  | nil => intro l; cases l <;> simp [keptL]
  | cons b bs ih =>
    intro l
    cases l with
    | nil => simp [keptL]
    | cons u us =>
      have := ih us
      rw [keptL]
      cases b <;> simp <;> omega
namespace St
/-- WHAT IT IS, IN FULL. -/
theorem full_prune (S : St) (x : Int) (n m : Nat) (l : List Tm) (bs : List Bool) (hl : ∀ c ∈ l, IsC c) (hm : l.length = m) (hm6 : m ≤ 6) (hb : bs.length = m) (hn : n ≤ 4611686018427387904) (hx0 : 0 ≤ x) (hx : x ≤ 4611686018427387904)
    (hv : (S.value (leafT 4 n)).2 = false) (hvx : S.value (leafT 4 x) = (lams m (apply (leafT 4 n) (pruneOn m bs 0)), true)) :
    ∃ f, S.Full (apply (leafT 4 x) l) 500 = (apply (leafT 4 n) (keptL bs l), f, 0) := by
  have hk : onK l m m bs 0 = keptL bs l := by rw [onK_all l m bs 0 (by omega) (by omega), List.drop_zero]
  have hz : pruneOn m bs 0 = onK l m 0 bs 0 := (onK_zero l m bs 0).symm
  have hst : S.step (apply (leafT 4 x) l) = (apply (lamsN (m - 0) (bodyOf n (onK l m 0 bs 0))) (l.drop 0), true, 0) := by
    rw [List.drop_zero, Nat.sub_zero, ← hz]
    by_cases hle : l = []
    · subst hle
      have ha : apply (leafT 4 x) [] = leafT 4 x := rfl
      have ha2 : ∀ t : Tm, apply t [] = t := fun _ => rfl
      rw [ha, ha2]
      unfold step
      rw [if_pos (by rw [hvx]), hvx]
      rfl
    · have ha : apply (leafT 4 x) l = .mk 6 ByteArray.empty 0 (leafT 4 x :: l) := by
        unfold apply
        rw [if_neg hle, if_neg (by simp [leafT])]
      rw [ha]
      unfold step
      rw [if_neg (by simp [value]), if_neg (by simp)]
      simp only [l_mk, List.getD_cons_zero, List.drop_succ_cons, List.drop_zero]
      rw [if_pos (by rw [hvx]), hvx]
      rfl
  have hh : S.head (apply (leafT 4 x) l) (500 - 1) = (bodyOf n (keptL bs l), (0 : Int), (498 : Int) - (m : Int)) := by
    rw [head_eq, hst]
    simp only [Bool.true_eq_false, if_false, ne_eq, not_true, false_or]
    rw [if_neg (by omega), head_go S n m l bs hl hm hm6 hb hn hv m 0 (500 - 1 - 1) (by omega) (by omega), hk]
    rfl
  have hkl := kept_len bs l
  have hkc := kept_isC bs l hl
  have hkd := kids_body S 498 n (keptL bs l) hkc ((498 : Int) - (m : Int)) (by omega)
  have hfull : S.full (apply (leafT 4 x) l) 500 = (bodyOf n (keptL bs l), (0 : Int), (498 : Int) - (m : Int) - ((keptL bs l).length : Int)) := by
    unfold full
    rw [show (500 : Int).toNat = 498 + 1 + 1 from rfl, fullF, if_neg (by decide), hh]
    simp only [ne_eq, not_true, if_false]
    rw [hkd]
    simp only [ne_eq, not_true, if_false]
    rw [Tm.eta]
  have hval : (apply (leafT 4 x) l).valid = true := by
    obtain ⟨q, rfl⟩ : ∃ q : Nat, x = q := ⟨x.toNat, by omega⟩
    exact bodyOf_valid q l (by omega) (fun u hu => (hl u hu).2)
  have hrun : runV S.full (apply (leafT 4 x) l) 500 = (bodyOf n (keptL bs l), (498 : Int) - (m : Int) - ((keptL bs l).length : Int), (0 : Int)) := by
    unfold runV
    rw [if_neg (by rw [hval]; simp), hfull]
    simp
  refine ⟨(498 : Int) - (m : Int) - ((keptL bs l).length : Int), ?_⟩
  unfold Full
  rw [hrun]
  simp only [ne_eq, not_true, if_false]
  rw [short_body n _ hkc]
  rfl
end St
end Go.Proofs.Ytbdappbmlnpogaa
namespace Go.Proofs.Ytbdappbmlnpogaa
open Tm
theorem leavesL_mem (l : List Tm) (d : Int) : ∀ p ∈ leavesL l d, ∃ u ∈ l, p ∈ u.leaves d := by
  induction l with
  | nil => intro p hp; rw [leavesL] at hp; cases hp
  | cons x xs ih =>
    intro p hp
    rw [leavesL] at hp
    rcases List.mem_append.1 hp with hp | hp
    · exact ⟨x, by simp, hp⟩
    · obtain ⟨u, hu, h⟩ := ih p hp
      exact ⟨u, by simp [hu], h⟩
theorem leaves_leafT (k n d : Int) (h5 : k ≠ 5) (h6 : k ≠ 6) : (leafT k n).leaves d = [(leafT k n, d)] := by
  unfold leafT
  rw [leaves, if_neg (by omega)]
theorem loose_fold (L : List (Tm × Int)) (h : ∀ p ∈ L, p.1.k = 3 → p.1.n - p.2 + 1 ≤ 0) : L.foldl looseStep 0 = 0 := by
  induction L with
  | nil => rfl
  | cons p L ih =>
    rw [List.foldl_cons]
    have h0 : looseStep 0 p = 0 := by
      unfold looseStep
      split
      · rename_i hk
        have := h p (by simp) hk
        omega
      · rfl
    rw [h0]
    exact ih (fun q hq => h q (by simp [hq]))
theorem prune_mem (m : Nat) (bs : List Bool) (hb : bs.length = m) : ∀ u ∈ St.pruneOn m bs 0, ∃ q : Nat, u = leafT 3 q ∧ q < m := by
  intro u hu
  have h0 := onK_zero [] m bs 0
  rw [show ((0 : Nat) : Int) = 0 from rfl] at h0
  rw [← h0] at hu
  rcases onK_mem [] m 0 (by simp) (Nat.le_refl _) bs 0 (by omega) u hu with h | ⟨q, rfl, hq⟩
  · obtain ⟨i, hi⟩ := List.getElem?_of_mem hu
    exfalso
    have : ∀ (bs : List Bool) (i : Nat), ∀ u ∈ onK [] m 0 bs i, u.k = 3 := by
      intro bs
      induction bs with
      | nil => intro i u hu; simp [onK] at hu
      | cons b bs ih =>
        intro i u hu
        rw [onK, if_neg (Nat.not_lt_zero i)] at hu
        split at hu
        · rcases List.mem_cons.1 hu with rfl | hu
          · rfl
          · exact ih _ u hu
        · exact ih _ u hu
    have h3 := this bs 0 u hu
    rw [h.1] at h3
    exact absurd h3 (by decide)
  · exact ⟨q, rfl, by omega⟩
theorem prune_loose (n m : Nat) (bs : List Bool) (hb : bs.length = m) : (lams m (bodyOf n (St.pruneOn m bs 0))).loose = 0 := by
  unfold loose lams
  refine loose_fold _ (fun p hp hk => ?_)
  rw [lamsN_leaves, bodyOf_form] at hp
  have hm : ((m : Int).toNat : Int) = m := by omega
  rw [hm] at hp
  split at hp
  · rw [leaves_leafT _ _ _ (by decide) (by decide)] at hp
    simp at hp
    subst hp
    exact absurd hk (by simp [leafT])
  · rw [leaves, if_pos (.inr rfl)] at hp
    simp only [show ((6 : Int) = 5) = False by simp, if_false, Int.add_zero, Int.zero_add] at hp
    obtain ⟨u, hu, hp⟩ := leavesL_mem _ _ p hp
    rcases List.mem_cons.1 hu with rfl | hu
    · rw [leaves_leafT _ _ _ (by decide) (by decide)] at hp
      simp at hp
      subst hp
      exact absurd hk (by simp [leafT])
    · obtain ⟨q, rfl, hq⟩ := prune_mem m bs hb u hu
      rw [leaves_leafT _ _ _ (by decide) (by decide)] at hp
      simp at hp
      subst hp
      simp only [leafT, n_mk]
      omega
/-- What the law asks of it. -/
def PrunedOk (S : St) (x : Int) (bs : List Bool) (l : List Tm) : Prop :=
  (S.prune x bs).2 = 0 ∧ (S.prune x bs).1.V.length = S.V.length + 1 ∧ (S.prune x bs).1.Ok 4097 1000 ∧
  (S.prune x bs).1.info S.V.length = (⟨(S.info x).1.lv, false, zero⟩, true) ∧
  ∃ f, (S.prune x bs).1.Full (apply (leafT 4 x) l) 500 = (apply (leafT 4 S.V.length) (keptL bs l), f, 0)
theorem pruned_ok (S : St) (x : Int) (bs : List Bool) (l : List Tm) (n : Nat) (hS : LaidInv n n S) (hn : n ≤ 8) (hx : (S.info x).2 = true) (hb : (S.info x).1.bd = false) (hl : ∀ c ∈ l, IsC c) (hm6 : bs.length ≤ 6) (hlb : l.length = bs.length) :
    PrunedOk S x bs l := by
  obtain ⟨hok, hV, hT, hlv⟩ := hS
  have hlv0 := hlv _ (St.info_mem hx)
  have hx0 : 0 ≤ x ∧ x < n := by
    unfold St.info at hx
    split at hx
    · simp at hx
    · omega
  obtain ⟨j, rfl⟩ : ∃ j : Nat, x = j := ⟨x.toNat, by omega⟩
  have hj : j < S.V.length := by omega
  have hpr : S.prune j bs = ((S.hang j (S.info j).1.lv bs.length (St.pruneOn bs.length bs 0)).2, 0) := by
    unfold St.prune
    rw [if_neg (by rw [hx, hb]; simp)]
  have hmem := prune_mem bs.length bs rfl
  have hsz1 : ∀ u ∈ St.pruneOn bs.length bs 0, u.size = 1 := fun u hu => by
    obtain ⟨q, rfl, -⟩ := hmem u hu
    exact size_leafT _ _
  have hlen := pruneOn_len bs.length bs 0
  have hval : (lams bs.length (bodyOf S.V.length (St.pruneOn bs.length bs 0))).valid = true := by
    refine lamsN_valid _ _ (bodyOf_valid _ _ (by omega) (fun u hu => ?_))
    obtain ⟨q, rfl, hq⟩ := hmem u hu
    exact leaf_valid q (by omega)
  have hsize : (lams bs.length (bodyOf S.V.length (St.pruneOn bs.length bs 0))).size ≤ 4097 := by
    unfold lams
    rw [lams_size]
    have h1 := bodyOf_size S.V.length (St.pruneOn bs.length bs 0)
    have h2 := sizeL_ones _ hsz1
    omega
  have hloose := prune_loose S.V.length bs.length bs rfl
  have hh := St.hang_ok hok j (S.info j).1.lv bs.length (St.pruneOn bs.length bs 0) hsize (fun u hu => by
    obtain ⟨q, rfl, hq⟩ := hmem u hu
    exact (bnd_iff ..).2 ⟨fun _ => by omega, by simp⟩)
  have hfi : (S.fresh (S.info j).1.lv).info j = S.info j := by
    unfold St.info St.fresh
    simp only [List.length_append, List.length_cons, List.length_nil]
    rw [if_neg (by omega), if_neg (by omega)]
    simp [List.getD_eq_getElem?_getD, List.getElem?_append_left hj]
  have hbind : (S.fresh (S.info j).1.lv).bind j (lams bs.length (bodyOf S.V.length (St.pruneOn bs.length bs 0))) = (⟨(S.fresh (S.info j).1.lv).V.set j ⟨(S.info j).1.lv, true, lams bs.length (bodyOf S.V.length (St.pruneOn bs.length bs 0))⟩, S.T ++ [(j : Int)]⟩, 0) := by
    unfold St.bind
    rw [hfi, hx, hb, hval, hloose, if_neg (by simp)]
    rfl
  have hst : (S.prune j bs).1 = ⟨(S.fresh (S.info j).1.lv).V.set j ⟨(S.info j).1.lv, true, lams bs.length (bodyOf S.V.length (St.pruneOn bs.length bs 0))⟩, S.T ++ [(j : Int)]⟩ := by
    rw [hpr]
    show ((S.fresh (S.info j).1.lv).bind j (lams bs.length (bodyOf S.V.length (St.pruneOn bs.length bs 0)))).1 = _
    rw [hbind]
  have htop : St.top0 (S.info j).1.lv = (S.info j).1.lv := by unfold St.top0; rw [if_neg (by omega)]
  have hin : (S.prune j bs).1.info S.V.length = (⟨(S.info j).1.lv, false, zero⟩, true) := by
    rw [hst]
    unfold St.fresh
    generalize hQ : (⟨(S.info j).1.lv, true, lams bs.length (bodyOf S.V.length (St.pruneOn bs.length bs 0))⟩ : Inf) = Q
    generalize hW : (S.info j).1.lv = W at *
    unfold St.info
    simp only [List.length_set, List.length_append, List.length_cons, List.length_nil]
    rw [if_neg (by omega)]
    have hne : ¬ j = S.V.length := by omega
    rw [htop, Int.toNat_natCast, List.getD_eq_getElem?_getD, List.getElem?_set, if_neg hne, List.getElem?_append_right (Nat.le_refl _), Nat.sub_self]
    rfl
  have hxx : (S.prune j bs).1.info j = (⟨(S.info j).1.lv, true, lams bs.length (bodyOf S.V.length (St.pruneOn bs.length bs 0))⟩, true) := by
    rw [hst]
    unfold St.fresh
    generalize hQ : (⟨(S.info j).1.lv, true, lams bs.length (bodyOf S.V.length (St.pruneOn bs.length bs 0))⟩ : Inf) = Q
    unfold St.info
    simp only [List.length_set, List.length_append, List.length_cons, List.length_nil]
    rw [if_neg (by omega)]
    have hj2 : j < S.V.length + 1 := by omega
    simp [List.getD_eq_getElem?_getD, List.getElem?_set, hj2]
  refine ⟨by rw [hpr], by rw [hpr]; exact hh.2.1, by rw [hpr]; exact hh.1, hin, ?_⟩
  refine St.full_prune (S.prune j bs).1 j S.V.length bs.length l bs hl hlb hm6 rfl (by omega) (by omega) (by omega) ?_ ?_
  · unfold St.value
    simp only [leafT, n_mk]
    rw [hin]
    simp
  · unfold St.value
    simp only [leafT, n_mk, k_mk]
    rw [hxx]
    rfl
end Go.Proofs.Ytbdappbmlnpogaa
namespace Go.Proofs.Ytbdappbmlnpogaa
open Go Go.RowKit
set_option maxRecDepth 100000
theorem keptL_snoc (bs : List Bool) : ∀ (l : List Tm) (j : Nat) (b : Bool) (c : Tm), bs[j]? = some b → l[j]? = some c → keptL (bs.take (j + 1)) (l.take (j + 1)) = keptL (bs.take j) (l.take j) ++ if b then [c] else [] := by
  induction bs with
  | nil => intro l j b c h; simp at h
  | cons a bs ih =>
    intro l j b c h hl
    cases l with
    | nil => simp at hl
    | cons d ds =>
      cases j with
      | zero =>
        simp at h hl
        subst h; subst hl
        cases a <;> simp [keptL]
      | succ j =>
        simp only [List.getElem?_cons_succ] at h hl
        have := ih ds j b c h hl
        simp only [List.take_succ_cons, keptL, this]
        cases a <;> simp
set_option maxHeartbeats 32000000 in
theorem law_InvertPrunes (H : GH) (w : World) (v : Value) (l : List Inf) (x : Int) (kv : Value) (bs : List Bool) (lv : Value) (tl : List Tm) (hA : Agree H w) (hV : Vrs H v l) (hx : I64 x) (hK : Sl H 1 BoolP kv bs) (hL : Tms H lv tl) :
    Calls Try.prog 3 #[v, .int .i64 x, kv, lv] w fun e w' => e = .returned (.bool true) ∧ Below w.heap.size w w' := by
  obtain ⟨va, vc, rfl, hvl, hvm⟩ := hV.form
  obtain ⟨ka, kc, rfl, hkl, hkm⟩ := hK.form
  obtain ⟨la, lc, rfl, hll, hlm⟩ := hL.form
  unfold maxLen at hvm hkm hlm
  have hwk := Lib.hid (law_works H _ hA)
  have HA := Lib.hid hA
  have HV := Lib.hid hV
  have HK := Lib.hid hK
  have HL := Lib.hid hL
  clear hA hV hK hL
  go_enter Try.func3, Try.ntmps3
  go_wp2_with fail
  refine hwk.out.mono ?_
  rintro e w1 ⟨rfl, hb1⟩
  have P1 := Lib.hid (Ext.of_below (O := fun _ => False) HA.out hb1)
  have hov := Lib.hid (law_over H w1 _ l P1.out.agree HV.out)
  clear hwk hb1
  go_wp2_with fail
  refine hov.out.mono ?_
  rintro e w2 ⟨b1, rfl, hb2, hov1⟩
  have P2 := Lib.hid (P1.out.then_below hb2)
  have HO := Lib.hid hov1
  have hrow := Lib.hid (law_row H w2 _ tl P2.out.agree HL.out)
  clear hov hb2 hov1 P1
  go_wp2_with fail
  refine hrow.out.mono ?_
  rintro e w3 ⟨b2, rfl, hb3, hrow1⟩
  have P3 := Lib.hid (P2.out.then_below hb3)
  have HR := Lib.hid hrow1
  clear hrow hb3 hrow1 P2
  cases b1 with
  | true =>
    go_wp2_with fail
    go_ret
    exact ⟨rfl, P3.out.below⟩
  | false =>
    cases b2 with
    | true =>
      go_wp2_with fail
      go_ret
      exact ⟨rfl, P3.out.below⟩
    | false =>
      by_cases h6 : 6 < (bs.length : Int)
      · go_wp2_with fail
        go_ret
        exact ⟨rfl, P3.out.below⟩
      · have hd6 : decide (6 < (bs.length : Int)) = false := decide_eq_false h6
        by_cases hne : tl.length = bs.length
        · have hq1 : ((tl.length : Int) != (bs.length : Int)) = false := by simp [hne]
          have hq2 : (tl.length != bs.length) = false := by simp [hne]
          have HNE := Lib.hid hne
          obtain ⟨h8, hsm⟩ := HO.out rfl
          have HSM := Lib.hid hsm
          obtain ⟨hr6, hrs⟩ := HR.out rfl
          have HRS := Lib.hid hrs
          clear hne hsm hrs HO HR h6
          go_wp2_with fail
          go_loopw [12] (fun i wr => ∃ (j : Nat), j ≤ tl.length ∧ i = .int .i64 j ∧ Pure H w H wr ∧ Hid (∀ (i : Nat) (y : Tm), i < j → tl[i]? = some y → IsC y)) (fun i _ => tl.length - (intOf i).toNat)
          case atStart => exact ⟨0, Nat.zero_le _, rfl, P3.out, fun i y hi => absurd hi (by omega)⟩
          case round =>
            obtain ⟨j, hj, rfl, hP, hall⟩ := hrel
            have P4 := Lib.hid hP
            clear hP
            by_cases hlt : j < tl.length
            · obtain ⟨y, hy⟩ : ∃ y, tl[j]? = some y := ⟨_, List.getElem?_eq_getElem hlt⟩
              obtain ⟨b, o, cs, rfl, -, hRy, hcell⟩ := HL.out.get hy
              have hvd := Lib.hid (term_Valid y cs H wr hRy P4.out.agree)
              obtain ⟨ya, yc, rfl, -, -, -, -⟩ := hRy.open_
              have c0 := P4.out.agree.cell (hcell 0 _ rfl)
              have c1 := P4.out.agree.cell (hcell 1 _ rfl)
              have c2 := P4.out.agree.cell (hcell 2 _ rfl)
              have c3 := P4.out.agree.cell (hcell 3 _ rfl)
              simp only [Nat.add_zero, ← Nat.add_assoc] at c0 c1 c2 c3
              have hbl := World.block_lt_of_cell? wr _ c0
              have HY := Lib.hid hy
              clear hy hcell hRy
              by_cases hk : y.k = 0
              · have HKY := Lib.hid hk
                rw [hk] at c0 hvd
                clear hk
                go_wp2_with fail
                refine hvd.out.mono ?_
                generalize hvv : y.valid = vv at *
                rintro e w4 ⟨rfl, hb4⟩
                have P5 := Lib.hid (P4.out.then_below hb4)
                have HVV := Lib.hid hvv
                clear hvd hvv hb4 c0 c1 c2 c3 hbl
                cases vv with
                | false =>
                  go_wp2_with fail
                  go_ret
                  exact ⟨rfl, P5.out.below⟩
                | true =>
                  go_wp2_with fail
                  go_roundw
                  case rel =>
                    refine ⟨j + 1, by omega, by go_num, P5.out, fun i z hi hz => ?_⟩
                    by_cases e : i = j
                    · subst e
                      rw [HY.out] at hz
                      injection hz with hz
                      subst hz
                      exact ⟨HKY.out, HVV.out⟩
                    · exact hall.out i z (by omega) hz
                  case measure => simp [intOf]; omega
              · have hk1 : (y.k == 0) = false := beq_eq_false_iff_ne.2 hk
                have hk2 : (y.k != 0) = true := by rw [bne, hk1]; rfl
                clear hk
                go_wp2_with fail
                go_ret
                exact ⟨rfl, P4.out.below⟩
            · have hd3 : decide ((j : Int) < (tl.length : Int)) = false := decide_eq_false (by omega)
              have HC : Hid (∀ c ∈ tl, IsC c) := Lib.hid (fun c hc => by
                obtain ⟨i, hi⟩ := List.getElem?_of_mem hc
                exact hall.out i c (by have := (List.getElem?_eq_some_iff.1 hi).1; omega) hi)
              have hlaid := Lib.hid (law_laid H wr _ l P4.out.agree HV.out (by omega) HSM.out)
              clear hall
              go_wp2_with fail
              refine hlaid.out.mono ?_
              rintro e w5 ⟨s, r, S, R, rfl, ⟨X5, F, F2, f1, -, -, S5', -⟩, I5, -, -⟩
              have P5 := Lib.hid (P4.out.then X5)
              have HI := Lib.hid I5
              have HF := Lib.hid (fun k (hk : F k ∧ k < w5.heap.size) => Nat.le_trans P4.out.size (f1 k hk.1))
              have S5 := Lib.hid S5'.tight
              have HVn := Lib.hid I5.2.1
              have HTn := Lib.hid I5.2.2.1
              have hsn : S.V.length ≤ 8 := by have := HVn.out; omega
              have hinf := Lib.hid (store_Info H w5 s S x S5.out)
              have hpr0 := Lib.hid (fun W (hW : Below w5.heap.size w5 W) => invert_Prune H W s S x bs _ (P5.out.agree.below hW) (S5.out.below P5.out.agree hW) hx HK.out (by have := HNE.out; omega) (by omega) (by have := HTn.out; omega))
              have hpo := Lib.hid (fun h1 h2 => pruned_ok S x bs tl l.length HI.out h8 h1 h2 HC.out (by have := HNE.out; omega) HNE.out)
              have hno : Hid ((S.info x).2 = false ∨ (S.info x).1.bd = true → S.prune x bs = (S, 1)) := Lib.hid (fun h => by unfold St.prune; rw [if_pos h])
              generalize hIe : S.info x = I at *
              obtain ⟨i, ok⟩ := I
              have HIE := Lib.hid hIe
              clear hlaid X5 f1 S5' I5 hIe
              dsimp only at hpo hno
              go_wp2_with fail
              refine hinf.out.mono ?_
              rintro e w6 ⟨ics, rfl, hb6, hRI⟩
              obtain ⟨tcs, rfl, hR1, hlv⟩ := hRI
              obtain ⟨ia, ic, rfl, -, -, -, -⟩ := hR1.open_
              have hbb := hb6.trans ((below_alloc w6 (ibox i ia ic)).mono hb6.size)
              have P6 := Lib.hid (P5.out.then_below hbb)
              have S6 := Lib.hid (S5.out.below P5.out.agree hbb)
              have B6 := Lib.hid (heap_alloc_new w6 (ibox i ia ic))
              have hlen := Lib.hid (store_Len H _ s S S6.out)
              have hpr := Lib.hid (hpr0.out _ hbb)
              have hz6 := Lib.hid hb6.size
              have HLV := Lib.hid hlv
              clear hinf hR1 hbb hpr0 hb6 hlv
              go_wp2_with fail
              generalize hW6 : w6.alloc (ibox i ia ic) = W6 at *
              have HW6 := Lib.hid (show W6.heap.size = w6.heap.size + 1 by rw [← hW6]; simp)
              clear hW6
              refine hlen.out.mono ?_
              rintro e w' ⟨rfl, rfl⟩
              clear hlen
              generalize hPr : S.prune x bs = pr at *
              obtain ⟨S', q⟩ := pr
              unfold PrunePost at hpr
              rw [hPr] at hpr
              have HPr := Lib.hid hPr
              clear hPr
              dsimp only at hpr
              cases ok with
              | false =>
                have h := hno.out (.inl rfl)
                injection h with h1 h2
                subst h1; subst h2
                go_wp2_with fail
                refine hpr.out.mono ?_
                rintro e w7 ⟨H7, rfl, X7, S7'⟩
                have P7 := Lib.hid (P6.out.trans X7 (fun k hk hlt => absurd hlt (Nat.not_lt.2 (HF.out k hk))))
                have B7 := Lib.hid ((X7.block w6.heap.size (cell_lt B6.out) (fun h => by have := h.2; have := hz6.out; omega)).trans B6.out)
                have hl7 := Lib.hid (store_Len H7 w7 s S' S7')
                obtain ⟨i0, i1, i2, i3, i4, i5, i6⟩ := box6 B7.out
                clear X7 S7' hpr
                go_wp2_with fail
                refine hl7.out.mono ?_
                rintro e w8 ⟨rfl, rfl⟩
                go_wp2_with fail
                go_ret
                exact ⟨rfl, P7.out.below⟩
              | true =>
                cases hbd : i.bd with
                | true =>
                  have hbd' := Lib.hid hbd
                  have h := hno.out (.inr hbd'.out)
                  injection h with h1 h2
                  subst h1; subst h2
                  clear hbd
                  go_wp2_with fail
                  refine hpr.out.mono ?_
                  rintro e w7 ⟨H7, rfl, X7, S7'⟩
                  have P7 := Lib.hid (P6.out.trans X7 (fun k hk hlt => absurd hlt (Nat.not_lt.2 (HF.out k hk))))
                  have B7 := Lib.hid ((X7.block w6.heap.size (cell_lt B6.out) (fun h => by have := h.2; have := hz6.out; omega)).trans B6.out)
                  have hl7 := Lib.hid (store_Len H7 w7 s S' S7')
                  obtain ⟨i0, i1, i2, i3, i4, i5, i6⟩ := box6 B7.out
                  rw [hbd'.out] at i2
                  clear X7 S7' hpr
                  go_wp2_with fail
                  refine hl7.out.mono ?_
                  rintro e w8 ⟨rfl, rfl⟩
                  go_wp2_with fail
                  go_ret
                  exact ⟨rfl, P7.out.below⟩
                | false =>
                  have hbd' := Lib.hid hbd
                  have hp := hpo.out rfl hbd
                  unfold PrunedOk at hp
                  rw [HPr.out, HIE.out] at hp
                  dsimp only at hp
                  obtain ⟨hq, hVl, hok2, hin, f, hfull⟩ := hp
                  subst hq
                  obtain ⟨I2, hI2⟩ : ∃ I2 : Inf, I2 = ⟨i.lv, false, Tm.zero⟩ := ⟨_, rfl⟩
                  rw [← hI2] at hin
                  have hI2l : I2.lv = i.lv := by rw [hI2]
                  have hI2b : I2.bd = false := by rw [hI2]
                  have HI2 := Lib.hid (And.intro hI2l hI2b)
                  have HOK := Lib.hid hok2
                  have HFU := Lib.hid hfull
                  have HVL := Lib.hid hVl
                  have HIN := Lib.hid hin
                  clear hpo hno hVl hok2 hin hfull hI2 hI2l hI2b hbd
                  go_wp2_with fail
                  refine hpr.out.mono ?_
                  rintro e w7 ⟨H7, rfl, X7, S7'⟩
                  have P7 := Lib.hid (P6.out.trans X7 (fun k hk hlt => absurd hlt (Nat.not_lt.2 (HF.out k hk))))
                  have B7 := Lib.hid ((X7.block w6.heap.size (cell_lt B6.out) (fun h => by have := h.2; have := hz6.out; omega)).trans B6.out)
                  have S7 := Lib.hid S7'.tight
                  have hinf2 := Lib.hid (store_Info H7 w7 s S' S.V.length S7.out)
                  rw [HIN.out] at hinf2
                  obtain ⟨i0, i1, i2, i3, i4, i5, i6⟩ := box6 B7.out
                  rw [hbd'.out] at i2
                  clear X7 S7' hpr
                  go_wp2_with fail
                  refine hinf2.out.mono ?_
                  rintro e w8 ⟨ics, rfl, hb8, hRI⟩
                  obtain ⟨tcs, rfl, hR2, -⟩ := hRI
                  obtain ⟨ja, jc, rfl, -, -, -, -⟩ := hR2.open_
                  have hbb := hb8.trans ((below_alloc w8 (ibox I2 ja jc)).mono hb8.size)
                  have P8 := Lib.hid (P7.out.then_below hbb)
                  have S8 := Lib.hid (S7.out.below P7.out.agree hbb)
                  have B8 := Lib.hid (Below.blk hbb B7.out)
                  have C8 := Lib.hid (heap_alloc_new w8 (ibox I2 ja jc))
                  clear hinf2 hR2 hbb hb8 i0 i1 i2 i3 i4 i5 i6
                  go_wp2_with fail
                  generalize hW8 : w8.alloc (ibox I2 ja jc) = W8 at *
                  clear hW8
                  go_loopw [21, 22] (fun kv i wr => ∃ (j : Nat), j ≤ tl.length ∧ i = .int .i64 j ∧ Pure H7 W8 H7 wr ∧ Own H7 wr W8.heap.size 30 4 (Rep H7) kv (keptL (bs.take j) (tl.take j))) (fun _ i _ => tl.length - (intOf i).toNat)
                  case atStart => exact ⟨0, Nat.zero_le _, rfl, Ext.refl P8.out.agree, by rw [List.take_zero, List.take_zero]; exact Own.nil _ _ _ _ _ _⟩
                  case round =>
                    obtain ⟨j, hj, rfl, EC, own⟩ := hrel
                    obtain ⟨oa, oc, rfl, hol, hom⟩ := own.form
                    have hkpl := kept_len (bs.take j) (tl.take j)
                    have htkl : (tl.take j).length ≤ 6 := by rw [List.length_take]; omega
                    have HEC := Lib.hid EC
                    by_cases hlt : j < tl.length
                    · obtain ⟨y, hy⟩ : ∃ y, tl[j]? = some y := ⟨_, List.getElem?_eq_getElem hlt⟩
                      have hlb : j < bs.length := by have := HNE.out; omega
                      obtain ⟨b, hbs⟩ : ∃ b, bs[j]? = some b := ⟨_, List.getElem?_eq_getElem hlb⟩
                      have hsn := keptL_snoc bs tl j b y hbs hy
                      generalize hKp : keptL (bs.take j) (tl.take j) = kp at *
                      have HSN := Lib.hid hsn
                      have HOW := Lib.hid own
                      obtain ⟨tb, tq, cs, rfl, -, hRy, hcell⟩ := HL.out.get hy
                      obtain ⟨kb, ko, bcs, rfl, -, rfl, hbcell⟩ := HK.out.get hbs
                      have d0 := EC.agree.cell (GH.cell?_mono P7.out.sub (hbcell 0 _ rfl))
                      have HRy := Lib.hid (hRy.mono P7.out.sub)
                      obtain ⟨ya, yc, rfl, -, -, -, -⟩ := hRy.open_
                      have c0 := EC.agree.cell (GH.cell?_mono P7.out.sub (hcell 0 _ rfl))
                      have c1 := EC.agree.cell (GH.cell?_mono P7.out.sub (hcell 1 _ rfl))
                      have c2 := EC.agree.cell (GH.cell?_mono P7.out.sub (hcell 2 _ rfl))
                      have c3 := EC.agree.cell (GH.cell?_mono P7.out.sub (hcell 3 _ rfl))
                      simp only [Nat.add_zero, Nat.mul_one, ← Nat.add_assoc] at c0 c1 c2 c3 d0
                      have hbl := World.block_lt_of_cell? wr _ c0
                      have hbl2 := World.block_lt_of_cell? wr _ d0
                      clear hKp hsn hy hbs hcell hbcell hRy EC own
                      cases b with
                      | true =>
                        rw [if_pos rfl] at HSN
                        go_wp2_with (at_builtin; refine wpList_own1 rfl _ _ rfl isSl_tms (.slice oa kp.length oc) rfl wr.heap.size 1 rfl (HOW.out.alloc _) (HEC.out.agree.alloc _) (Nat.le_trans HEC.out.size (by simp)) _ (heap_alloc_new wr _) y HRy.out rfl HRy.out.one (by unfold maxLen; omega) (by omega) ?_; intro v' w' own' hg' hb')
                        go_roundw
                        case rel => exact ⟨j + 1, by omega, by go_num, (HEC.out.alloc _).grown hg' HOW.out.free (fun g hg hlt => absurd hlt (Nat.not_lt.2 (HOW.out.lt g hg).1)), by rw [HSN.out]; exact own'⟩
                        case measure => simp [intOf]; omega
                      | false =>
                        rw [if_neg (by simp), List.append_nil] at HSN
                        go_wp2_with fail
                        go_roundw
                        case rel => exact ⟨j + 1, by omega, by go_num, HEC.out, by rw [HSN.out]; exact HOW.out⟩
                        case measure => simp [intOf]; omega
                    · have hd4 : decide ((j : Int) < (tl.length : Int)) = false := decide_eq_false (by omega)
                      have hjt : tl.take j = tl := List.take_of_length_le (by omega)
                      have hjb : bs.take j = bs := List.take_of_length_le (by have := HNE.out; omega)
                      rw [hjt, hjb] at own hkpl
                      rw [hjt, hjb]
                      have hmem : Hid (∀ c ∈ keptL bs tl, IsC c) := Lib.hid (kept_isC bs tl HC.out)
                      generalize hKp : keptL bs tl = kp at *
                      obtain ⟨H9, X9, hs9, -, hT9⟩ := own.freeze_ext EC (Nat.le_refl _) (fun _ _ h => h.len)
                      have HT9 : Hid (Tms H9 _ kp) := Lib.hid (Sl.mono (Sub.refl _) (fun _ _ _ h => Rep.mono hs9 h) hT9)
                      have P9 := Lib.hid (P8.out.then X9)
                      have S9 := Lib.hid (S8.out.pure X9)
                      have B9 := Lib.hid (Below.blk X9.below B8.out)
                      have C9 := Lib.hid (Below.blk X9.below C8.out)
                      have HKL := Lib.hid hkpl
                      have hap := Lib.hid (term_Apply (leafT 4 x) _ tl _ H9 wr (rep_leafT H9 4 x (by unfold I64; omega) hx) (HL.out.mono P9.out.sub) P9.out.agree (by intro h; simp [leafT] at h) (by have := apply_leaf_len 4 x (by decide) tl; unfold LB; omega))
                      clear hjt hjb hKp X9 hs9 hT9 own EC HEC hkpl hol hom htkl
                      go_wp2_with fail
                      refine hap.out.mono ?_
                      rintro e w9 ⟨H10, acs, rfl, X10, R10⟩
                      have P10 := Lib.hid (P9.out.then X10)
                      have S10 := Lib.hid (S9.out.pure X10)
                      have hfu := Lib.hid (store_Full H10 w9 s S' 4097 1000 ((leafT 4 x).apply tl) 500 acs P10.out.agree S10.out R10 (fun _ => Tm.bnd_apply ((Tm.bnd_iff ..).2 ⟨by simp [leafT], by simp⟩) (fun t ht => (HRS.out t ht).2)) HOK.out (by have h1 := (Tm.apply_size (leafT 4 x) tl).1; have h2 := sizeL_ones tl (fun u hu => (HC.out u hu).size); rw [size_leafT] at h1; have : SB = 1073741824 := rfl; omega) (by decide) (by unfold I64; omega))
                      rw [HFU.out] at hfu
                      have B10 := Lib.hid (Below.blk X10.below B9.out)
                      have C10 := Lib.hid (Below.blk X10.below C9.out)
                      have HT10 := Lib.hid (HT9.out.mono X10.sub)
                      obtain ⟨aa, ac, rfl, -, -, -, -⟩ := R10.open_
                      clear X10 R10 hap HT9 P9 S9 B9 C9
                      go_wp2_with fail
                      refine hfu.out.mono ?_
                      unfold RunPost
                      rintro e w11 ⟨H11, fcs, rfl, X11, R11⟩
                      dsimp only at R11
                      have HAP : Hid (((leafT 4 (S.V.length : Int)).apply kp).l.length ≤ LB) := Lib.hid (by have := apply_leaf_len 4 (S.V.length : Int) (by decide) kp; have := HKL.out; unfold LB; omega)
                      have hsv : (S.V.length : Int) ≤ 8 := by omega
                      generalize hY : (leafT 4 (S.V.length : Int)).apply kp = Y at *
                      have HY := Lib.hid hY
                      have HR11 := Lib.hid R11
                      obtain ⟨fa, fc, rfl, -, -, -, -⟩ := R11.open_
                      have P11 := Lib.hid ((P10.out.then X11).alloc (tbox Y fa fc))
                      have S11 := Lib.hid ((S10.out.pure X11).below X11.agree (below_alloc w11 (tbox Y fa fc)))
                      have B11 := Lib.hid (Below.blk (below_alloc w11 (tbox Y fa fc)) (Below.blk X11.below B10.out))
                      have C11 := Lib.hid (Below.blk (below_alloc w11 (tbox Y fa fc)) (Below.blk X11.below C10.out))
                      have D11 := Lib.hid (heap_alloc_new w11 (tbox Y fa fc))
                      have HT11 := Lib.hid (HT10.out.mono X11.sub)
                      clear hY X11 R11 hfu HT10 P10 S10 B10 C10
                      go_wp2_with fail
                      generalize hW11 : w11.alloc (tbox Y fa fc) = W11 at *
                      clear hW11
                      have hap2 := Lib.hid (term_Apply (leafT 4 (S.V.length : Int)) _ kp _ H11 W11.drew (rep_leafT H11 4 (S.V.length : Int) (by unfold I64; omega) (by unfold I64; omega)) HT11.out P11.out.agree.drew (by intro h; simp [leafT] at h) (by rw [HY.out]; exact HAP.out))
                      rw [HY.out] at hap2
                      have hsm2 : Hid (∀ H12 w12 (bcs : List Value), Sub H11 H12 → Agree H12 w12 → Rep H12 Y bcs → Calls Try.prog 15 #[.agg (tcells Y fa fc), .agg bcs.toArray] w12 (fun e w' => e = .returned (.bool true) ∧ Below w12.heap.size w12 w')) := Lib.hid (fun H12 w12 bcs hs hA hR => by
                        have h := ref_Same Y Y _ bcs H12 w12 (HR11.out.mono hs) hR hA
                        rw [(Tm.same_iff Y Y).2 rfl] at h
                        exact h)
                      have K1 : W11.drew.cell? ⟨w11.heap.size, 0, none⟩ = some (.int .i64 Y.k) ∧ W11.drew.cell? ⟨w11.heap.size, 1, none⟩ = some (.string Y.s) ∧ W11.drew.cell? ⟨w11.heap.size, 2, none⟩ = some (.int .i64 Y.n) ∧ W11.drew.cell? ⟨w11.heap.size, 3, none⟩ = some (.slice fa Y.l.length fc) :=
                        ⟨(box4 (w := W11.drew) D11.out).2.1, (box4 (w := W11.drew) D11.out).2.2.1, (box4 (w := W11.drew) D11.out).2.2.2.1, (box4 (w := W11.drew) D11.out).2.2.2.2.1⟩
                      go_region_held3 (fun w' => w'.cell? ⟨w11.heap.size, 0, none⟩ = some (.int .i64 Y.k) ∧ w'.cell? ⟨w11.heap.size, 1, none⟩ = some (.string Y.s) ∧ w'.cell? ⟨w11.heap.size, 2, none⟩ = some (.int .i64 Y.n) ∧ w'.cell? ⟨w11.heap.size, 3, none⟩ = some (.slice fa Y.l.length fc)) (with_reducible (first | exact K1 | exact KJ | exact KL)) (first | (go_at_call 14; ((with_reducible refine hap2.out.mono ?_); rintro e w12 ⟨H12, bcs, rfl, X12, R12⟩; have D12 := Below.blk X12.below D11.out; have KJ : w12.cell? ⟨w11.heap.size, 0, none⟩ = some (.int .i64 Y.k) ∧ w12.cell? ⟨w11.heap.size, 1, none⟩ = some (.string Y.s) ∧ w12.cell? ⟨w11.heap.size, 2, none⟩ = some (.int .i64 Y.n) ∧ w12.cell? ⟨w11.heap.size, 3, none⟩ = some (.slice fa Y.l.length fc) := ⟨(box4 D12).2.1, (box4 D12).2.2.1, (box4 D12).2.2.2.1, (box4 D12).2.2.2.2.1⟩; have hsame := Lib.hid (hsm2.out H12 w12 bcs X12.sub X12.agree R12); obtain ⟨ba, bc, rfl, -, -, -, -⟩ := R12.open_)) | (go_at_call 15; ((with_reducible refine hsame.out.mono ?_); rintro e w13 ⟨rfl, hb13⟩; have D13 := Below.blk hb13 D12; have KL : w13.cell? ⟨w11.heap.size, 0, none⟩ = some (.int .i64 Y.k) ∧ w13.cell? ⟨w11.heap.size, 1, none⟩ = some (.string Y.s) ∧ w13.cell? ⟨w11.heap.size, 2, none⟩ = some (.int .i64 Y.n) ∧ w13.cell? ⟨w11.heap.size, 3, none⟩ = some (.slice fa Y.l.length fc) := ⟨(box4 D13).2.1, (box4 D13).2.2.1, (box4 D13).2.2.2.1, (box4 D13).2.2.2.2.1⟩)))
                      have hbw := X12.below.trans (hb13.mono X12.size)
                      have P13 := Lib.hid ((P11.out.drew.then X12).then_below hb13)
                      have S13 := Lib.hid ((S11.out.pure ((Ext.refl P11.out.agree).drew.then X12)).below X12.agree hb13)
                      have B13 := Lib.hid (Below.blk hbw B11.out)
                      have C13 := Lib.hid (Below.blk hbw C11.out)
                      have hl13 := Lib.hid (store_Len H12 w13 s S' S13.out)
                      rw [HVL.out] at hl13
                      obtain ⟨i0, i1, i2, i3, i4, i5, i6⟩ := box6 B13.out
                      rw [hbd'.out] at i2
                      obtain ⟨j0, j1, j2, j3, j4, j5, j6⟩ := box6 C13.out
                      rw [HI2.out.1] at j1
                      rw [HI2.out.2] at j2
                      clear hbw X12 hb13 K1 KJ KL D12 D13 hsame hap2 hsm2
                      go_wp2_with fail
                      refine hl13.out.mono ?_
                      rintro e w' ⟨rfl, rfl⟩
                      go_wp2_with fail
                      go_ret
                      exact ⟨rfl, P13.out.below⟩
        · have hq1 : ((tl.length : Int) != (bs.length : Int)) = true := by simp; omega
          have hq2 : (tl.length != bs.length) = true := by simp [hne]
          have hne2 : ¬ ((tl.length : Int) = (bs.length : Int)) := by omega
          clear hne
          go_wp2_with fail
          go_ret
          exact ⟨rfl, P3.out.below⟩
end Go.Proofs.Ytbdappbmlnpogaa
namespace Go.Proofs.Ytbdappbmlnpogaa
open Go Go.RowKit
set_option maxRecDepth 100000
namespace Tm
mutual
/-- All variables within are among A. -/
def vin (A : Int → Prop) : Tm → Prop | .mk k _ n l => (k = 4 → A n) ∧ vinL A l
def vinL (A : Int → Prop) : List Tm → Prop | [] => True | t :: ts => t.vin A ∧ vinL A ts
end
theorem vinL_iff (A : Int → Prop) (l : List Tm) : vinL A l ↔ ∀ t ∈ l, t.vin A := by
  induction l with
  | nil => rw [vinL]; simp
  | cons x xs ih => rw [vinL, ih]; simp
theorem vin_iff (A k s n l) : (mk k s n l).vin A ↔ (k = 4 → A n) ∧ ∀ t ∈ l, t.vin A := by rw [vin, vinL_iff]
variable {A : Int → Prop}
theorem vin_apply {f : Tm} {args : List Tm} (hf : f.vin A) (ha : ∀ t ∈ args, t.vin A) : (f.apply args).vin A := by
  unfold apply
  split
  · exact hf
  · split
    · rename_i h
      cases f with
      | mk k s n l =>
        rw [vin_iff] at hf ⊢
        refine ⟨by simp, fun t ht => ?_⟩
        rcases List.mem_append.1 ht with ht | ht
        · exact hf.2 t ht
        · exact ha t ht
    · rw [vin_iff]
      refine ⟨by simp, fun t ht => ?_⟩
      rcases List.mem_cons.1 ht with rfl | ht
      · exact hf
      · exact ha t ht
theorem vin_walk (f : Tm → Int → Tm) (t : Tm) : ∀ d, t.vin A → (∀ p ∈ t.leaves d, p.1.vin A → (f p.1 p.2).vin A) → (t.walk f d).vin A := by
  induction t using ind with
  | h k s n l ih =>
    intro d hv hl
    rw [walk_mk]
    rw [leaves] at hl
    obtain ⟨h1, h2⟩ := (vin_iff ..).1 hv
    split
    · rename_i hk
      rw [if_pos hk] at hl
      have hout : ∀ u ∈ walkL f l (d + if k = 5 then 1 else 0), u.vin A := by
        rw [walkL_map]
        intro u hu
        obtain ⟨x, hx, rfl⟩ := List.mem_map.1 hu
        exact ih x hx _ (h2 x hx) (fun p hp => hl p (leaves_of_mem hx _ hp))
      generalize walkL f l (d + if k = 5 then 1 else 0) = out at hout
      unfold remake
      split
      · rename_i h
        exact vin_apply (hout _ (getD0_mem (by omega))) (fun t ht => hout t (List.mem_of_mem_drop ht))
      · rw [vin_iff]
        exact ⟨fun e => by omega, hout⟩
    · rename_i hk
      rw [if_neg hk] at hl
      exact hl (mk k s n l, d) (List.mem_singleton.2 rfl) hv
theorem vin_moved {u : Tm} {b : Int} (h : u.vin A) (h3 : u.k = 3) : (u.moved b).vin A := by
  cases u with
  | mk k s n l =>
    simp only [k_mk] at h3
    subst h3
    unfold moved
    rw [vin_iff] at h ⊢
    exact ⟨by simp, h.2⟩
theorem vin_shift {t : Tm} (a b : Int) (h : t.vin A) : (t.shift a b).vin A :=
  vin_walk _ t 0 h fun p _ hv => by
    unfold shiftF
    split
    · rename_i h; exact vin_moved hv h.1
    · exact hv
theorem vin_subst {t u : Tm} (i : Int) (h : t.vin A) (hu : u.vin A) : (t.subst i u).vin A :=
  vin_walk _ t 0 h fun p _ hv => by
    unfold substF
    split
    · exact hv
    · rename_i hc
      split
      · exact vin_shift _ _ hu
      · exact vin_moved hv (by omega)
theorem vin_lamsN (n : Nat) : ∀ t : Tm, t.vin A → (lamsN n t).vin A := by
  induction n with
  | zero => intro t h; exact h
  | succ n ih => intro t h; rw [lamsN]; exact ih _ ((vin_iff ..).2 ⟨by simp, by simpa using h⟩)
theorem vin_split {t : Tm} (h : t.vin A) (hv : t.valid = true) : t.split.1.vin A ∧ ∀ u ∈ t.split.2, u.vin A := by
  unfold split
  cases t with
  | mk k s n l =>
    split
    · exact ⟨h, by simp⟩
    · rename_i hk
      have h6 : k = 6 := by
        by_cases h6 : k = 6
        · exact h6
        · exact absurd (.inl (by simpa using h6)) hk
      subst h6
      have hl := (ok1_app.1 ((valid_iff ..).1 hv).1).2.2.1
      cases l with
      | nil => simp at hl
      | cons x xs => exact ⟨((vin_iff ..).1 h).2 x (by simp), fun u hu => ((vin_iff ..).1 h).2 u (by simp at hu ⊢; exact .inr hu)⟩
end Tm
namespace St
def Vin (A : Int → Prop) (S : St) : Prop := ∀ i ∈ S.V, i.bd = true → i.vl.vin A
open Tm in
theorem step_vin {S : St} {M : Nat} {B : Int} {A : Int → Prop} (h : S.Ok M B) (hV : S.Vin A) {t : Tm} (hv : t.valid = true) (ht : t.vin A) (h1 : (S.step t).2.1 = true) (h2 : (S.step t).2.2 = 0) : (S.step t).1.vin A := by
  have val : ∀ u : Tm, (S.value u).2 = true → (S.value u).1.vin A := by
    intro u hu
    unfold value at hu ⊢
    simp only [Bool.and_eq_true] at hu
    exact hV _ (info_mem hu.1.2) hu.2
  cases t with
  | mk k s n l =>
    unfold step at h1 h2 ⊢
    split
    · rename_i hv; exact val _ hv
    · rename_i hv'
      rw [if_neg hv'] at h1 h2
      split at h1
      · simp at h1
      · rename_i h6
        simp only [k_mk, ne_eq, Decidable.not_not] at h6
        subst h6
        simp only [k_mk, l_mk, ne_eq, not_true_eq_false, ↓reduceIte] at h1 h2 ⊢
        obtain ⟨-, hkv⟩ := (valid_iff ..).1 hv
        obtain ⟨-, -, hl, -⟩ := ok1_app.1 ((valid_iff ..).1 hv).1
        have hm := ((vin_iff ..).1 ht).2
        cases l with
        | nil => simp at hl
        | cons x xs =>
          simp only [List.getD_cons_zero, List.drop_succ_cons, List.drop_zero] at h1 h2 ⊢
          split
          · rename_i hvv
            exact vin_apply (val _ hvv) fun u hu => hm u (by simp [hu])
          · rename_i hvv
            rw [if_neg hvv] at h1 h2
            split at h1
            · simp at h1
            · rename_i h5
              rw [if_neg h5] at h2
              rw [if_neg h5]
              simp only [ne_eq, Decidable.not_not] at h5
              cases xs with
              | nil => simp at hl
              | cons y ys =>
                simp only [List.getD_cons_succ, List.getD_cons_zero, List.drop_succ_cons, List.drop_zero] at h1 h2 ⊢
                have hx := hm x (by simp)
                have hxv := hkv x (by simp)
                cases x with
                | mk xk xq xn xl =>
                  simp only [k_mk, l_mk] at h5 h2 ⊢
                  subst h5
                  obtain ⟨-, -, h1l⟩ := ok1_lam.1 ((valid_iff ..).1 hxv).1
                  obtain ⟨b, rfl⟩ := List.length_eq_one_iff.1 h1l
                  simp only [List.getD_cons_zero] at h2 ⊢
                  have hbv := ((valid_iff ..).1 hxv).2 b (by simp)
                  have hyv := hkv y (by simp)
                  have hc : contractV b y = contract b y := by unfold contractV; rw [if_pos ⟨hbv, hyv⟩]
                  rw [hc] at h2 ⊢
                  rw [(contract_size hbv hyv h2).2]
                  exact vin_apply (vin_subst 0 (((vin_iff ..).1 hx).2 b (by simp)) (hm y (by simp))) fun u hu => hm u (by simp [hu])
open Tm in
theorem head_vin (S : St) (M : Nat) {A : Int → Prop} (hV : S.Vin A) : ∀ (n : Nat) (B : Int) (t : Tm) (f : Int), f.toNat = n → S.Ok M B → t.valid = true → t.bnd B = true → t.size + n * M ≤ SB → B + n * SB ≤ far → t.vin A → (S.head t f).2.1 = 0 → (S.head t f).1.vin A := by
  intro n
  induction n with
  | zero =>
    intro B t f hf hS hv hb hs hB hA h0
    rw [head_eq] at h0 ⊢
    split
    · exact hA
    · rename_i h1
      rw [if_neg h1, if_pos (.inr (by omega))] at h0
      simp at h0
  | succ n ih =>
    intro B t f hf hS hv hb hs hB hA h0
    rw [head_eq] at h0 ⊢
    rw [Nat.succ_mul] at hs
    have hB' : B + (n * SB + SB : Nat) ≤ far := by rw [← Nat.succ_mul]; exact_mod_cast hB
    split
    · exact hA
    · rename_i h1
      rw [if_neg h1] at h0
      split at h0
      · simp at h0
      · rename_i h2
        rw [if_neg h2]
        have hh1 : (S.step t).2.1 = true := by simpa using h1
        have hh2 : (S.step t).2.2 = 0 ∧ 0 < f := by
          constructor
          · exact Decidable.byContradiction fun h => h2 (.inl h)
          · exact Decidable.byContradiction fun h => h2 (.inr (by omega))
        have hst := step_fit hS (t := t) ⟨hv, Nat.le_refl _, hb⟩ (by omega) (by omega) hh1 hh2.1
        have hst1 := hst.s
        have hS' : S.Ok M (B + SB) := ⟨hS.1, fun i hi hbd => (hS.2 i hi hbd).mono (Nat.le_refl _) (by omega)⟩
        exact ih (B + SB) (S.step t).1 (f - 1) (by omega) hS' hst.v hst.b (by omega) (by push_cast at hB' ⊢; omega) (step_vin hS hV hv hA hh1 hh2.1) h0
theorem Head_vin {S : St} {M : Nat} {B : Int} {A : Int → Prop} {t : Tm} {f : Int} (hV : S.Vin A) (hok : S.Ok M B) (hv : t.valid = true) (hb : t.bnd B = true) (hsz : t.size + f.toNat * M ≤ SB) (hB : B + f.toNat * SB ≤ Tm.far) (hA : t.vin A) (he : (S.Head t f).2.2 = 0) : (S.Head t f).1.vin A := by
  unfold Head runV at he ⊢
  rw [if_neg (by simp [hv])] at he ⊢
  split at he
  · rename_i h; exact absurd he h
  · rename_i h
    rw [if_neg h]
    exact head_vin S M hV f.toNat B t f rfl hok hv hb hsz hB hA (by simpa using h)
end St
end Go.Proofs.Ytbdappbmlnpogaa
namespace Go.Proofs.Ytbdappbmlnpogaa
open Go Go.RowKit
set_option maxRecDepth 100000
/-- What is kept of a store. -/
structure OInv (A : Int → Prop) (x : Int) (lvs : List Int) (S : St) : Prop where
  vals : S.Vin A
  old : ∀ (i : Nat) (v : Int), lvs[i]? = some v → ∃ y, S.V[i]? = some y ∧ y.lv = St.top0 v
  bds : ∀ (i : Nat) (y : Inf), S.V[i]? = some y → y.bd = true → A i ∧ (i : Int) ≠ x
  len : lvs.length ≤ S.V.length
theorem OInv.hang {A : Int → Prop} {x : Int} {lvs : List Int} {S : St} (h : OInv A x lvs S) (hA : ∀ m : Nat, lvs.length ≤ m → A m) {y lv n : Int} {on : List Tm} (hy : A y) (hyx : y ≠ x) (ho : ∀ u ∈ on, u.vin A) : OInv A x lvs (S.hang y lv n on).2 := by
  have hf : OInv A x lvs (S.fresh lv) := by
    refine ⟨fun i hi hb => ?_, fun i v hv => ?_, fun i y hy hb => ?_, by unfold St.fresh; simp; have := h.len; omega⟩
    · unfold St.fresh at hi
      rcases List.mem_append.1 hi with hi | hi
      · exact h.vals i hi hb
      · simp at hi; subst hi; cases hb
    · obtain ⟨y, h1, h2⟩ := h.old i v hv
      refine ⟨y, ?_, h2⟩
      unfold St.fresh
      rw [List.getElem?_append_left (List.getElem?_eq_some_iff.1 h1).1]
      exact h1
    · unfold St.fresh at hy
      by_cases hi : i < S.V.length
      · rw [List.getElem?_append_left hi] at hy; exact h.bds i y hy hb
      · rw [List.getElem?_append_right (by omega)] at hy
        cases hk : i - S.V.length with
        | zero => rw [hk] at hy; simp at hy; subst hy; cases hb
        | succ k => rw [hk] at hy; simp at hy
  have hval : (Tm.lams n (Tm.apply (leafT 4 S.V.length) on)).vin A := Tm.vin_lamsN _ _ (Tm.vin_apply ((Tm.vin_iff ..).2 ⟨fun _ => hA _ h.len, by simp⟩) ho)
  show OInv A x lvs ((S.fresh lv).bind y _).1
  generalize Tm.lams n (Tm.apply (leafT 4 S.V.length) on) = t at hval
  generalize S.fresh lv = T at hf
  unfold St.bind
  split
  · exact hf
  · rename_i hc
    have hin : (T.info y).2 = true := by
      cases hh : (T.info y).2 with
      | true => rfl
      | false => exact absurd (.inl hh) hc
    have hyr : 0 ≤ y ∧ y < T.V.length := by
      unfold St.info at hin
      split at hin
      · simp at hin
      · omega
    have hinf : T.V[y.toNat]? = some (T.info y).1 := by
      unfold St.info
      rw [if_neg (by omega)]
      simp only [List.getD_eq_getElem?_getD]
      rw [List.getElem?_eq_getElem (by omega)]
      rfl
    refine ⟨fun i hi hb => ?_, fun i v hv => ?_, fun i z hz hb => ?_, by simp; exact hf.len⟩
    · rcases List.mem_or_eq_of_mem_set hi with hi | rfl
      · exact hf.vals i hi hb
      · exact hval
    · obtain ⟨z, h1, h2⟩ := hf.old i v hv
      by_cases e : y.toNat = i
      · subst e
        rw [hinf] at h1
        injection h1 with h1
        refine ⟨_, by rw [List.getElem?_set, if_pos rfl, if_pos (by omega)], ?_⟩
        dsimp only
        rw [h1]; exact h2
      · exact ⟨z, by rw [List.getElem?_set, if_neg e]; exact h1, h2⟩
    · by_cases e : y.toNat = i
      · subst e
        have : ((y.toNat : Nat) : Int) = y := by omega
        rw [this]
        exact ⟨hy, hyx⟩
      · rw [List.getElem?_set, if_neg e] at hz
        exact hf.bds i z hz hb
namespace Ic
theorem flexA_vin (c : Ic) (A : Int → Prop) (k n : Int) (l : List Tm) : ∀ i, ∀ u ∈ (flexA c k n l i).1, u.vin A := by
  induction l with
  | nil => intro i u hu; simp [flexA] at hu
  | cons x xs ih =>
    intro i u hu
    rw [flexA] at hu
    split at hu
    · rcases List.mem_cons.1 hu with rfl | hu
      · exact (Tm.vin_iff ..).2 ⟨by simp, by simp⟩
      · exact ih (i + 1) u hu
    · exact ih (i + 1) u hu
theorem flexB_vin (c : Ic) (A : Int → Prop) (k lv : Int) (l : List Tm) (hl : ∀ u ∈ l, u.isLeaf = true) : ∀ i, ∀ u ∈ (flexB c k lv l i).1, u.vin A := by
  induction l with
  | nil => intro i u hu; simp [flexB] at hu
  | cons x xs ih =>
    intro i u hu
    have ih := ih (fun u hu => hl u (by simp [hu]))
    rw [flexB] at hu
    split at hu
    · rename_i hc
      rcases List.mem_cons.1 hu with rfl | hu
      · have hlf := hl u (by simp)
        unfold Tm.isLeaf at hlf
        cases u with
        | mk k s n l =>
          simp only [Tm.k_mk] at hc
          have hk := hc.2.1
          subst hk
          simp only [Bool.and_eq_true] at hlf
          have h0 := Tm.ok1_leaf ((Tm.valid_iff ..).1 hlf.1).1 (by omega) (by omega)
          subst h0
          exact (Tm.vin_iff ..).2 ⟨by simp, by simp⟩
      · exact ih (i + 1) u hu
    · exact ih (i + 1) u hu
theorem fail_S (v : Iv) (e : Int) : (v.fail e).2.S = v.S := by unfold Iv.fail; dsimp only; split <;> rfl
theorem flex_oinv {c : Ic} {A : Int → Prop} {x : Int} {lvs : List Int} (hL : ∀ u ∈ c.L, u.isLeaf = true) (hA : ∀ m : Nat, lvs.length ≤ m → A m) {v : Iv} {y : Int} {l : List Tm} {k : Int} (h : OInv A x lvs v.S) (hy : A y) (hyx : y ≠ x) : OInv A x lvs (flex c v y l k).2.S := by
  unfold flex
  dsimp only
  split
  · rw [fail_S]; exact h
  · split
    · exact h
    · exact h.hang hA hy hyx (fun u hu => by
        rcases List.mem_append.1 hu with hu | hu
        · exact flexA_vin c A _ _ _ _ u hu
        · exact flexB_vin c A _ _ _ hL _ u hu)
theorem mapV_oinv {c : Ic} {M : Nat} {A : Int → Prop} {x : Int} {lvs : List Int} {B : Int} {g : Iv → Tm → Tm × Iv} {n : Nat} (hk : ∀ v t, v.f.toNat ≤ n → Ask c M v t B → Kept M v (g v t).2) (hg : ∀ v t, v.f.toNat ≤ n → Ask c M v t B → t.vin A → OInv A x lvs v.S → OInv A x lvs (g v t).2.S) :
    ∀ (l : List Tm) (v : Iv), v.f.toNat ≤ n → (∀ u ∈ l, Ask c M v u B ∧ u.vin A) → OInv A x lvs v.S → OInv A x lvs (mapV g v l).2.S := by
  intro l
  induction l with
  | nil => intro v _ _ h; exact h
  | cons t ts ih =>
    intro v hn hl h
    rw [mapV]
    have k1 := hk v t hn (hl t (by simp)).1
    exact ih _ (by have := k1.f; omega) (fun u hu => ⟨(hl u (by simp [hu])).1.kept k1, (hl u (by simp [hu])).2⟩) (hg v t hn (hl t (by simp)).1 (hl t (by simp)).2 h)
theorem termF_oinv {c : Ic} {M : Nat} {A : Int → Prop} {lvs : List Int} (hL : ∀ u ∈ c.L, u.isLeaf = true) (hA : ∀ m : Nat, lvs.length ≤ m → A m) : ∀ (m : Nat) (v : Iv) (t : Tm) (k B : Int), v.f.toNat ≤ m → Ask c M v t B → t.vin A → OInv A c.x lvs v.S → OInv A c.x lvs (termF c m v t k).2.S := by
  intro m
  induction m with
  | zero =>
    intro v t k B _ _ _ h
    rw [termF]
    split
    · exact h
    · rw [fail_S]; exact h
  | succ m ih =>
    intro v t k B hm ha ht h
    rw [termF]
    split
    · exact h
    · split
      · rw [fail_S]; exact h
      · rename_i hf
        dsimp only
        split
        · rw [fail_S]; exact h
        · rename_i he
          have he' : (v.S.Head t (v.f - 1)).2.2 = 0 := by simpa using he
          obtain ⟨k1, h2, h3, a1⟩ := ha.head (by omega) he'
          have hM : v.f.toNat * M = (v.f - 1).toNat * M + M := by rw [show v.f.toNat = (v.f - 1).toNat + 1 by omega, Nat.succ_mul]
          have hSB : (v.f.toNat : Int) * SB = ((v.f - 1).toNat : Int) * SB + SB := by
            rw [show v.f.toNat = (v.f - 1).toNat + 1 by omega]
            push_cast
            rw [Int.add_mul]
            omega
          have b1 := ha.sz
          have b2 := ha.far
          have hhv := St.Head_vin (f := v.f - 1) h.vals (ha.ok.mono ha.dB) ha.tv ha.tb (by omega) (by omega) ht he'
          generalize B + ((v.f - 1).toNat - (v.S.Head t (v.f - 1)).2.1.toNat : Nat) * SB = B1 at a1
          obtain ⟨s1, s2, s3, s4⟩ := split_fit a1.fit
          obtain ⟨w1, w2⟩ := Tm.vin_split hhv a1.tv
          have hbody : (v.S.Head t (v.f - 1)).1.split.1.k = 5 → Tm.Fit (v.S.Head t (v.f - 1)).1.size B1 ((v.S.Head t (v.f - 1)).1.split.1.l.getD 0 Tm.zero) ∧ ((v.S.Head t (v.f - 1)).1.split.1.l.getD 0 Tm.zero).vin A := by
            intro h5
            obtain ⟨b, hb, hfb⟩ := lam_body s1 h5
            generalize (v.S.Head t (v.f - 1)).1.split.1 = hd at *
            cases hd with
            | mk hk hs hn hl =>
              simp only [Tm.l_mk] at hb
              subst hb
              exact ⟨hfb, ((Tm.vin_iff ..).1 w1).2 b (by simp)⟩
          split
          · rename_i h5
            exact ih _ _ _ B1 (by dsimp only; omega) (a1.part (hbody h5).1) (hbody h5).2 h
          · split
            · rename_i h4
              split
              · split
                · rw [fail_S]; exact h
                · rw [fail_S]; exact h
              · rename_i hx
                have hAn : A (v.S.Head t (v.f - 1)).1.split.1.n := by
                  generalize (v.S.Head t (v.f - 1)).1.split.1 = hd at *
                  cases hd with
                  | mk hk hs hn hl => exact ((Tm.vin_iff ..).1 w1).1 (by simpa using h4)
                exact flex_oinv hL hA (v := { v with f := (v.S.Head t (v.f - 1)).2.1 }) h hAn hx
            · have kk := mapV_oinv (c := c) (M := M) (A := A) (x := c.x) (lvs := lvs) (n := m) (B := B1) (g := fun v t => termF c m v t k) (fun v t hn ha => termF_kept hL m v t k B1 hn ha) (fun v t hn ha hv ho => ih v t k B1 hn ha hv ho) (v.S.Head t (v.f - 1)).1.split.2 { v with f := (v.S.Head t (v.f - 1)).2.1 } (by dsimp only; omega) (fun u hu => ⟨a1.part (s2 u hu), w2 u hu⟩) h
              split
              · split
                · rw [fail_S]; exact h
                · exact kk
              · split
                · rw [fail_S]; exact h
                · exact kk
end Ic
/-- The law's plain part. -/
theorem vin_vars (t : Tm) (A : Int → Prop) : ∀ d, t.valid = true → (∀ p ∈ t.leaves d, p.1.k = 4 → A p.1.n) → t.vin A := by
  induction t using Tm.ind with
  | h k s n l ih =>
    intro d hv hp
    rw [Tm.leaves] at hp
    rw [Tm.vin_iff]
    by_cases hk : k = 5 ∨ k = 6
    · rw [if_pos hk] at hp
      exact ⟨fun e => by omega, fun u hu => ih u hu _ (((Tm.valid_iff ..).1 hv).2 u hu) (fun p hpu => hp p (leaves_of_mem hu _ hpu))⟩
    · rw [if_neg hk] at hp
      have h0 := Tm.ok1_leaf ((Tm.valid_iff ..).1 hv).1 (by omega) (by omega)
      subst h0
      exact ⟨fun e => hp (Tm.mk k s n [], d) (by simp) e, by simp⟩
theorem others_plain (levels : List Int) (x : Int) (l : List Tm) (t : Tm) (hv : t.valid = true) (h8 : levels.length ≤ 8) (h6 : l.length ≤ 6) (hs : t.size ≤ 24) (hb : t.bnd 1000 = true) : OthersOk levels x t ((FreeS levels).invert x l t 80) := by
  have hA : ∀ m : Nat, levels.length ≤ m → (fun v : Int => v ∈ t.vars ∨ (levels.length : Int) ≤ v) (m : Int) := fun m hm => .inr (by omega)
  have h0 : OInv (fun v : Int => v ∈ t.vars ∨ (levels.length : Int) ≤ v) x levels (FreeS levels) := by
    refine ⟨fun i hi hbd => ?_, fun i v hv => ?_, fun i y hy hbd => ?_, by unfold FreeS; simp⟩
    · unfold FreeS at hi
      obtain ⟨v, -, rfl⟩ := List.mem_map.1 hi
      cases hbd
    · exact ⟨_, by unfold FreeS; rw [List.getElem?_map, hv]; rfl, rfl⟩
    · unfold FreeS at hy
      rw [List.getElem?_map] at hy
      cases hh : levels[i]? with
      | none => rw [hh] at hy; cases hy
      | some v => rw [hh] at hy; simp at hy; subst hy; cases hbd
  have fin : ∀ S' : St, OInv (fun v : Int => v ∈ t.vars ∨ (levels.length : Int) ≤ v) x levels S' → ∀ (i : Nat) (v : Int), levels[i]? = some v → ∃ y, S'.info i = (y, true) ∧ y.lv = St.top0 v ∧ (y.bd = true → (i : Int) ∈ t.vars ∧ (i : Int) ≠ x) := by
    intro S' h i v hv
    obtain ⟨y, h1, h2⟩ := h.old i v hv
    have hi := (List.getElem?_eq_some_iff.1 h1).1
    have hil := (List.getElem?_eq_some_iff.1 hv).1
    refine ⟨y, ?_, h2, fun hbd => ?_⟩
    · unfold St.info
      rw [if_neg (by omega)]
      simp [List.getD_eq_getElem?_getD, h1]
    · obtain ⟨a, b⟩ := h.bds i y h1 hbd
      exact ⟨a.elim id (fun h => by omega), b⟩
  have ask := others_ask levels x l t h8 h6 hv hs hb
  unfold St.invert
  split
  · exact ⟨fin _ h0, fun h => by simp at h, fun _ => rfl⟩
  · rename_i hc
    have hl : ∀ u ∈ l, u.isLeaf = true := fun u hu => by
      cases h : u.isLeaf with
      | true => rfl
      | false => exact absurd (.inr (.inr (.inr (List.any_eq_true.2 ⟨u, hu, by rw [h]; rfl⟩)))) hc
    have hk := Ic.termF_kept (c := ⟨x, ((FreeS levels).info x).1.lv, l⟩) (M := 4097) hl (Int.toNat 80) ⟨FreeS levels, 80, 0⟩ t 0 DB (Nat.le_refl _) ask
    have ho := Ic.termF_oinv (c := ⟨x, ((FreeS levels).info x).1.lv, l⟩) (M := 4097) (A := fun v : Int => v ∈ t.vars ∨ (levels.length : Int) ≤ v) (lvs := levels) hl hA (Int.toNat 80) ⟨FreeS levels, 80, 0⟩ t 0 DB (Nat.le_refl _) ask (vin_vars t _ 0 hv (fun p hp hk => .inl ((vars_iff t _).2 ⟨p, hp, hk, rfl⟩))) h0
    dsimp only
    split
    · rename_i he
      exact ⟨fin _ ho, fun h => absurd h he, fun _ => rfl⟩
    · exact ⟨fin _ ho, fun _ => hk.f, fun h => absurd rfl h⟩
theorem law_InvertOthers_true (H : GH) (w : World) (levels : List Int) (vL : Value) (x : Int) (l : List Tm) (vl : Value) (t : Tm) (cs : List Value) (hA : Agree H w) (hL : Ints H vL levels) (hx : I64 x) (hK : Tms H vl l) (hR : Rep H t cs) :
    Calls Try.prog 4 #[vL, .int .i64 x, vl, .agg cs.toArray] w fun e w' => e = .returned (.bool true) ∧ Below w.heap.size w w' :=
  law_InvertOthers H w levels vL x l vl t cs hA hL hx hK hR (fun hv h8 h6 hs hb => others_plain levels x l t hv h8 h6 hs hb)
end Go.Proofs.Ytbdappbmlnpogaa
