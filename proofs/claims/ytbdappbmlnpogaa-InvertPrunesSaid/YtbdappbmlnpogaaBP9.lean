/- Package store in memory: Head, Full. Package invert: the small functions. Package invert: the function values. Package invert on plain data. Package invert: the inversion in memory; fail. Package invert: hang. Package invert: Prune. Package invert: Prune, walked. Package invert: Args. Package invert: image. Package invert on plain data: what Args and flex make of fuel and lengths. Package invert: two rows that grow in a loop. -/
import Derived.Test.YtbdappbmlnpogaaBP8
namespace Go.Proofs.Ytbdappbmlnpogaa
open Go Go.RowKit
set_option maxRecDepth 100000
set_option maxHeartbeats 4000000 in
theorem store_Head {F : Nat → Prop} (H : GH) (w : World) (s : Nat) (S : St) (M : Nat) (B : Int) (t : Tm) (f : Int) (cs : List Value) (hA : Agree H w) (hS : StAt H w F s S) (hR : Rep H t cs) (hb : t.valid = true → t.bnd B = true) (hok : S.Ok M B) (hsz : t.size + f.toNat * M + M ≤ SB) (hB : B + f.toNat * SB + SB ≤ Tm.far) (hf : I64 f) :
    Calls Try.prog 66 #[.pointer (some ⟨s, 0, none⟩), .agg cs.toArray, .int .i64 f] w (RunPost H w (S.Head t f)) := by
  have hrun := Lib.hid (fun W (hW : Pure H w H W) => store_run 59 s S.head H W t f cs hW.agree hR (by intro args w; go_simp)
    (fun hv fb W2 h1 h2 h3 h4 => store_head fb H W2 s S M B t f cs h2.agree ((hS.tight.pure hW).pure h2) hR hv (hb hv) hok hsz hB hf h3 h4 (fun h => by have := h.2; have := hW.size; omega)))
  obtain ⟨a, cap, rfl, -, -, -, -⟩ := hR.open_
  obtain ⟨E0, B0, B1, hn⟩ := enter1 t a cap H w hA
  have E0 := Lib.hid E0
  have B1 := Lib.hid B1
  have ho := Lib.hid (show S.Head t f = St.runV S.head t f from rfl)
  clear hR hS hb hok hsz hB B0
  go_enter Try.func66, Try.ntmps66
  go_wp2_with fail
  refine (hrun.out _ E0.out).mono ?_
  unfold RunPost
  generalize St.runV S.head t f = r at *
  obtain ⟨u, l1, er⟩ := r
  rintro e w2 ⟨H2, ucs, rfl, X2, R2⟩
  dsimp only at R2
  have HR2 := Lib.hid R2
  obtain ⟨ua, uc, rfl, -, -, -, -⟩ := R2.open_
  obtain ⟨q0, q1, q2, q3, q4, q5, q6, q7, q8⟩ := box4 (Below.blk X2.below B1.out)
  have k2 := (X2.old _ (cell_lt B1.out)).trans hn
  have E3 := Lib.hid ((E0.out.then X2).store4 k2 (by omega) (.int .i64 u.k) (.string u.s) (.int .i64 u.n) (.slice ua u.l.length uc))
  clear hrun X2 R2
  go_wp2_with fail
  exact bodyPost_ret (v := .tuple #[.agg #[.int .i64 u.k, .string u.s, .int .i64 u.n, .slice ua u.l.length uc], .int .i64 l1, .int .i64 er]) (by simp [results, Try.results66, go_sem, q0, q1, q2, q3, q4]) rfl (by unfold RunPost; rw [ho.out]; exact ⟨H2, _, rfl, E3.out, HR2.out⟩)
/-- What Full does first is no larger than this. -/
theorem runV_size {S : St} {M : Nat} {B : Int} {t : Tm} {f : Int} (hok : S.Ok M B) (hb : t.valid = true → t.bnd B = true) (hsz : t.size + f.toNat * M + M ≤ SB) (hB : B + f.toNat * SB + SB ≤ Tm.far) : (St.runV S.full t f).1.size ≤ SB := by
  unfold St.runV
  have hz : Tm.zero.size ≤ SB := by unfold SB Tm.zero; rw [Tm.size_mk]; simp
  split
  · exact hz
  · rename_i hv
    have hv : t.valid = true := by simpa using hv
    split
    · exact hz
    · rename_i h0
      obtain ⟨-, -, -, h, -⟩ := St.full_fit S M f.toNat B f.toNat (Nat.le_refl _) hok (by omega) t f (Nat.le_refl _) hv (hb hv) (by omega) (by simpa [St.full] using h0)
      show (St.fullF S f.toNat t f).1.size ≤ SB
      omega
set_option maxHeartbeats 4000000 in
theorem store_Full {F : Nat → Prop} (H : GH) (w : World) (s : Nat) (S : St) (M : Nat) (B : Int) (t : Tm) (f : Int) (cs : List Value) (hA : Agree H w) (hS : StAt H w F s S) (hR : Rep H t cs) (hb : t.valid = true → t.bnd B = true) (hok : S.Ok M B) (hsz : t.size + f.toNat * M + M ≤ SB) (hB : B + f.toNat * SB + SB ≤ Tm.far) (hf : I64 f) :
    Calls Try.prog 13 #[.pointer (some ⟨s, 0, none⟩), .agg cs.toArray, .int .i64 f] w (RunPost H w (S.Full t f)) := by
  have hrun := Lib.hid (fun W (hW : Pure H w H W) => store_run 34 s S.full H W t f cs hW.agree hR (by intro args w; go_simp)
    (fun hv fb W2 h1 h2 h3 h4 => store_full fb H W2 s S M B t f cs h2.agree ((hS.tight.pure hW).pure h2) hR hv (hb hv) hok hsz hB hf h3 h4 (fun h => by have := h.2; have := hW.size; omega)))
  have hrs := Lib.hid (runV_size hok hb hsz hB)
  obtain ⟨a, cap, rfl, -, -, -, -⟩ := hR.open_
  obtain ⟨E0, B0, B1, hn⟩ := enter1 t a cap H w hA
  have E0 := Lib.hid E0
  have B1 := Lib.hid B1
  have ho := Lib.hid (show S.Full t f = if (St.runV S.full t f).2.2 ≠ 0 then (Tm.zero, 0, (St.runV S.full t f).2.2) else ((St.runV S.full t f).1.shortV, (St.runV S.full t f).2.1, 0) from rfl)
  clear hR hS hb hok hsz hB B0
  go_enter Try.func13, Try.ntmps13
  go_wp2_with fail
  refine (hrun.out _ E0.out).mono ?_
  unfold RunPost
  generalize St.runV S.full t f = r at *
  obtain ⟨u, l1, er⟩ := r
  dsimp only at hrs
  rintro e w2 ⟨H2, ucs, rfl, X2, R2⟩
  dsimp only at R2
  have hsh := Lib.hid (fun W hW => eta_Short u ucs H2 W R2 hW hrs.out)
  obtain ⟨ua, uc, rfl, -, -, -, -⟩ := R2.open_
  have q := Lib.hid (Below.blk X2.below B1.out)
  obtain ⟨q0, q1, q2, q3, q4, q5, q6, q7, q8⟩ := box4 q.out
  have k2 := (X2.old _ (cell_lt B1.out)).trans hn
  have E2 := Lib.hid (E0.out.then X2)
  clear hrun X2 R2
  by_cases her : er = 0
  · subst her
    have E3 := Lib.hid (E2.out.alloc (tbox u ua uc))
    have q' := Lib.hid (Below.blk (below_alloc w2 (tbox u ua uc)) q.out)
    go_wp2_with fail
    refine (hsh.out _ E3.out.agree).mono ?_
    unfold ShortVPost
    generalize hY : u.shortV = Y at *
    rintro e w3 ⟨H3, ycs, rfl, X3, R3⟩
    have HR3 := Lib.hid R3
    obtain ⟨ya, yc, rfl, -, -, -, -⟩ := R3.open_
    have k3 := (X3.old _ (cell_lt q'.out)).trans k2
    have E4 := Lib.hid ((E3.out.then X3).store4 k3 (by omega) (.int .i64 Y.k) (.string Y.s) (.int .i64 Y.n) (.slice ya Y.l.length yc))
    clear q0 q1 q2 q3 q4 q5 q6 q7 q8
    obtain ⟨q0, q1, q2, q3, q4, q5, q6, q7, q8⟩ := box4 (Below.blk X3.below q'.out)
    clear X3 R3 hsh
    go_wp2_with fail
    refine bodyPost_ret (v := .tuple #[.agg #[.int .i64 Y.k, .string Y.s, .int .i64 Y.n, .slice ya Y.l.length yc], .int .i64 l1, .int .i64 0]) (by simp [results, Try.results13, go_sem, q0, q1, q2, q3, q4]) rfl ?_
    unfold RunPost
    rw [ho.out, if_neg (by simp)]
    exact ⟨H3, _, rfl, E4.out, HR3.out⟩
  · have her' : (er != 0) = true := by rw [bne_iff_ne]; exact her
    have E3 := Lib.hid ((E2.out.store4 k2 (by omega) (.int .i64 0) (.string ⟨#[]⟩) (.int .i64 0) (.slice none 0 0)).alloc (tbox u ua uc))
    go_wp2_with fail
    refine bodyPost_ret (v := .tuple #[.agg #[.int .i64 0, .string ⟨#[]⟩, .int .i64 0, .slice none 0 0], .int .i64 0, .int .i64 er]) (by simp [results, Try.results13, go_sem, q0, q1, q2, q3, q4]) rfl ?_
    unfold RunPost
    rw [ho.out, if_pos her]
    exact ⟨H2, _, rfl, E3.out, rep_zero H2⟩
end Go.Proofs.Ytbdappbmlnpogaa
namespace Go.Proofs.Ytbdappbmlnpogaa
open Go Go.RowKit
set_option maxRecDepth 100000
def leafT (k n : Int) : Tm := .mk k ByteArray.empty n []
def LeafTPost (H : GH) (w : World) (k n : Int) (e : Ending) (w' : World) : Prop := ∃ cs', e = .returned (.agg cs'.toArray) ∧ Below w.heap.size w w' ∧ Rep H (leafT k n) cs'
theorem rep_leafT (H : GH) (k n : Int) (hk : I64 k) (hn : I64 n) : Rep H (leafT k n) [.int .i64 k, .string ⟨#[]⟩, .int .i64 n, .slice none 0 0] :=
  Rep.shut hk hn (by simp [maxLen]) (Sl.nil _ _ _)
theorem invert_bound (H : GH) (w : World) (n : Int) (hn : I64 n) : Calls Try.prog 31 #[.int .i64 n] w (LeafTPost H w 3 n) := by
  go_enter Try.func31, Try.ntmps31
  go_wp2_with fail
  exact bodyPost_ret (v := .agg #[.int .i64 3, .string ⟨#[]⟩, .int .i64 n, .slice none 0 0]) (by simp [results, Try.results31, go_sem]) rfl ⟨_, rfl, below_alloc _ _, rep_leafT H 3 n (by unfold I64; omega) hn⟩
theorem invert_variable (H : GH) (w : World) (n : Int) (hn : I64 n) : Calls Try.prog 58 #[.int .i64 n] w (LeafTPost H w 4 n) := by
  go_enter Try.func58, Try.ntmps58
  go_wp2_with fail
  exact bodyPost_ret (v := .agg #[.int .i64 4, .string ⟨#[]⟩, .int .i64 n, .slice none 0 0]) (by simp [results, Try.results58, go_sem]) rfl ⟨_, rfl, below_alloc _ _, rep_leafT H 4 n (by unfold I64; omega) hn⟩
theorem invert_odd (t : Tm) (cs : List Value) (H : GH) (w : World) (hR : Rep H t cs) (hA : Agree H w) :
    Calls Try.prog 40 #[.agg cs.toArray] w fun e w' => e = .returned (.bool (!t.valid)) ∧ Below w.heap.size w w' := by
  have h1 := Lib.hid (fun W hW => term_Valid t cs H W hR hW)
  obtain ⟨a, cap, rfl, -, -, -, hl⟩ := hR.open_
  go_enter Try.func40, Try.ntmps40
  go_wp2_with fail
  refine (h1.out _ (hA.alloc _)).mono ?_
  rintro e w1 ⟨rfl, hb1⟩
  go_wp2_with fail
  go_ret
  exact ⟨rfl, (below_alloc _ _).trans (hb1.mono (below_alloc _ _).size)⟩
/-- invert.same: kind and number alike. -/
def Tm.alike (a b : Tm) : Bool := (a.k == b.k) && (a.n == b.n)
theorem invert_same (t u : Tm) (cs us : List Value) (H : GH) (w : World) (hR : Rep H t cs) (hU : Rep H u us) :
    Calls Try.prog 46 #[.agg cs.toArray, .agg us.toArray] w fun e w' => e = .returned (.bool (t.alike u)) ∧ Below w.heap.size w w' := by
  obtain ⟨a, cap, rfl, -, -, -, -⟩ := hR.open_
  obtain ⟨b, bap, rfl, -, -, -, -⟩ := hU.open_
  cases hk : (t.k == u.k) with
  | false =>
    have hk' := Lib.hid hk
    go_enter Try.func46, Try.ntmps46
    go_wp2_with fail
    go_ret
    exact ⟨by unfold Tm.alike; rw [hk'.out]; rfl, (below_alloc _ _).trans ((below_alloc _ _).mono (below_alloc _ _).size)⟩
  | true =>
    have hk' := Lib.hid hk
    go_enter Try.func46, Try.ntmps46
    go_wp2_with fail
    go_ret
    exact ⟨by unfold Tm.alike; rw [hk'.out]; rfl, (below_alloc _ _).trans ((below_alloc _ _).mono (below_alloc _ _).size)⟩
/-- invert.leaf. -/
def Tm.isLeaf (t : Tm) : Bool := t.valid && ((t.k == 3) || (t.k == 1))
set_option maxHeartbeats 2000000 in
theorem invert_leaf (t : Tm) (cs : List Value) (H : GH) (w : World) (hR : Rep H t cs) (hA : Agree H w) :
    Calls Try.prog 42 #[.agg cs.toArray] w fun e w' => e = .returned (.bool t.isLeaf) ∧ Below w.heap.size w w' := by
  have h1 := Lib.hid (fun W hW => term_Valid t cs H W hR hW)
  obtain ⟨a, cap, rfl, -, -, -, hl⟩ := hR.open_
  have B0 := Lib.hid (heap_alloc_new w (tbox t a cap))
  have fin : ∀ b, b = t.isLeaf → ∀ w1, Below (w.alloc (tbox t a cap)).heap.size (w.alloc (tbox t a cap)) w1 → (Ending.returned (.bool b) = .returned (.bool t.isLeaf) ∧ Below w.heap.size w w1) := fun b hb w1 h => ⟨by rw [hb], (below_alloc _ _).trans (h.mono (below_alloc _ _).size)⟩
  have FIN := Lib.hid fin
  clear fin hR hl
  cases hv : t.valid with
  | false =>
    have hv' := Lib.hid hv
    rw [hv] at h1
    go_enter Try.func42, Try.ntmps42
    go_wp2_with fail
    refine (h1.out _ (hA.alloc _)).mono ?_
    rintro e w1 ⟨rfl, hb1⟩
    go_wp2_with fail
    go_ret
    exact FIN.out _ (by unfold Tm.isLeaf; rw [hv'.out]; rfl) _ hb1
  | true =>
    have hv' := Lib.hid hv
    rw [hv] at h1
    cases h3 : (t.k == 3) with
    | true =>
      have h3' := Lib.hid h3
      go_enter Try.func42, Try.ntmps42
      go_wp2_with fail
      refine (h1.out _ (hA.alloc _)).mono ?_
      rintro e w1 ⟨rfl, hb1⟩
      obtain ⟨p0, p1, p2, p3, p4, p5, p6, p7, p8⟩ := box4 (Below.blk hb1 B0.out)
      go_wp2_with fail
      go_ret
      exact FIN.out _ (by unfold Tm.isLeaf; rw [hv'.out, h3'.out]; rfl) _ hb1
    | false =>
      have h3' := Lib.hid h3
      go_enter Try.func42, Try.ntmps42
      go_wp2_with fail
      refine (h1.out _ (hA.alloc _)).mono ?_
      rintro e w1 ⟨rfl, hb1⟩
      obtain ⟨p0, p1, p2, p3, p4, p5, p6, p7, p8⟩ := box4 (Below.blk hb1 B0.out)
      go_wp2_with fail
      go_ret
      exact FIN.out _ (by unfold Tm.isLeaf; rw [hv'.out, h3'.out]; rfl) _ hb1
theorem invert_Invert1 (t : Tm) (cs : List Value) (H : GH) (w : World) (hR : Rep H t cs) (hA : Agree H w) :
    Calls Try.prog 41 #[.agg cs.toArray] w fun e w' => e = .returned (.bool (!t.isLeaf)) ∧ Below w.heap.size w w' := by
  have h1 := Lib.hid (fun W hW => invert_leaf t cs H W hR hW)
  obtain ⟨a, cap, rfl, -, -, -, hl⟩ := hR.open_
  go_enter Try.func41, Try.ntmps41
  go_wp2_with fail
  refine (h1.out _ (hA.alloc _)).mono ?_
  rintro e w1 ⟨rfl, hb1⟩
  go_wp2_with fail
  go_ret
  exact ⟨rfl, (below_alloc _ _).trans (hb1.mono (below_alloc _ _).size)⟩
end Go.Proofs.Ytbdappbmlnpogaa
namespace Go.Proofs.Ytbdappbmlnpogaa
open Go Go.RowKit
set_option maxRecDepth 100000
theorem invert_Args1 (u : Tm) (ua : Option Addr) (uc ub : Nat) (t : Tm) (cs : List Value) (H : GH) (w : World) (hR : Rep H t cs) (hU : Rep H u (tcells u ua uc).toList) (hb : w.heap[ub]? = some (tbox u ua uc)) :
    Calls Try.prog 45 #[.agg cs.toArray, .pointer (some ⟨ub, 0, none⟩)] w fun e w' => e = .returned (.bool (t.alike u)) ∧ Below w.heap.size w w' := by
  have h1 := Lib.hid (fun W => invert_same t u cs _ H W hR hU)
  obtain ⟨a, cap, rfl, -, -, -, hl⟩ := hR.open_
  obtain ⟨p0, p1, p2, p3, p4, p5, p6, p7, p8⟩ := box4 hb
  go_enter Try.func45, Try.ntmps45
  go_wp2_with fail
  refine (h1.out _).mono ?_
  rintro e w1 ⟨rfl, hb1⟩
  go_wp2_with fail
  go_ret
  exact ⟨rfl, (below_alloc _ _).trans (hb1.mono (below_alloc _ _).size)⟩
theorem invert_image1 (u : Tm) (ua : Option Addr) (uc ub : Nat) (t : Tm) (cs : List Value) (H : GH) (w : World) (hR : Rep H t cs) (hU : Rep H u (tcells u ua uc).toList) (hb : w.heap[ub]? = some (tbox u ua uc)) :
    Calls Try.prog 81 #[.agg cs.toArray, .pointer (some ⟨ub, 0, none⟩)] w fun e w' => e = .returned (.bool (t.alike u)) ∧ Below w.heap.size w w' := by
  have h1 := Lib.hid (fun W => invert_same t u cs _ H W hR hU)
  obtain ⟨a, cap, rfl, -, -, -, hl⟩ := hR.open_
  obtain ⟨p0, p1, p2, p3, p4, p5, p6, p7, p8⟩ := box4 hb
  go_enter Try.func81, Try.ntmps81
  go_wp2_with fail
  refine (h1.out _).mono ?_
  rintro e w1 ⟨rfl, hb1⟩
  go_wp2_with fail
  go_ret
  exact ⟨rfl, (below_alloc _ _).trans (hb1.mono (below_alloc _ _).size)⟩
end Go.Proofs.Ytbdappbmlnpogaa
namespace Go.Proofs.Ytbdappbmlnpogaa
namespace St
/-- Args, from where so many leaves are told: the leaves, the fuel that is left, the error. -/
def argsL (S : St) (lv : Int) : List Tm → List Tm → Int → List Tm × Int × Int
  | out, [], f => (out, f, 0)
  | out, t :: ts, f =>
    if (S.Full t f).2.2 ≠ 0 then ([], 0, (S.Full t f).2.2)
    else if (S.Full t f).1.leafV.2 = false ∨ ((S.Full t f).1.leafV.1.k = 1 ∧ (S.Full t f).1.leafV.1.n ≤ lv) ∨ out.any (fun v => v.alike (S.Full t f).1.leafV.1) = true then ([], 0, 171)
    else argsL S lv (out ++ [(S.Full t f).1.leafV.1]) ts (S.Full t f).2.1
def args (S : St) (x : Int) (l : List Tm) (f : Int) : List Tm × Int × Int :=
  if (S.info x).2 = false ∨ l.any (fun t => !t.valid) = true then ([], 0, 1) else argsL S (S.info x).1.lv [] l f
/-- hang: the new variable's term is the same in all stores of so many variables. -/
def hang (S : St) (x level lams : Int) (on : List Tm) : Tm × St :=
  (leafT 4 S.V.length, ((S.fresh level).bind x (Tm.lams lams (Tm.apply (leafT 4 S.V.length) on))).1)
def pruneOn (n : Int) : List Bool → Int → List Tm
  | [], _ => []
  | b :: bs, k => if b then leafT 3 (n - 1 - k) :: pruneOn n bs (k + 1) else pruneOn n bs (k + 1)
def prune (S : St) (x : Int) (keep : List Bool) : St × Int :=
  if (S.info x).2 = false ∨ (S.info x).1.bd = true then (S, 1)
  else ((S.hang x (S.info x).1.lv keep.length (pruneOn keep.length keep 0)).2, 0)
end St
/-- An inversion that is under way: the store, the fuel, the error. -/
structure Iv where
  S : St
  f : Int
  e : Int
/-- What an inversion is for: the variable, its level, the leaves. -/
structure Ic where
  x : Int
  lv : Int
  L : List Tm
namespace Iv
def fail (v : Iv) (e : Int) : Tm × Iv := (Tm.zero, if v.e = 0 then { v with e := e } else v)
end Iv
namespace Ic
/-- A leaf's image below so many abstractions. -/
def image (c : Ic) (t : Tm) (k : Int) : Tm × Bool :=
  if t.k = 3 ∧ t.n < k then (t, true)
  else
    let out := if t.k = 3 then Tm.mk t.k t.s (t.n - k) t.l else t
    let p := idx (fun u => u.alike out) c.L 0
    if 0 ≤ p then (leafT 3 (k + c.L.length - 1 - p), true) else (t, (t.k == 1) && decide (t.n ≤ c.lv))
/-- Which leaves have images: what the variable hangs on, and the images. -/
def flexA (c : Ic) (k n : Int) : List Tm → Int → List Tm × List Tm
  | [], _ => ([], [])
  | t :: ts, i => if (c.image t k).2 then (leafT 3 (n - 1 - i) :: (flexA c k n ts (i + 1)).1, (c.image t k).1 :: (flexA c k n ts (i + 1)).2) else flexA c k n ts (i + 1)
def flexB (c : Ic) (k lv : Int) : List Tm → Int → List Tm × List Tm
  | [], _ => ([], [])
  | t :: ts, i => if c.lv < lv ∧ t.k = 1 ∧ t.n ≤ lv then (t :: (flexB c k lv ts (i + 1)).1, leafT 3 (k + c.L.length - 1 - i) :: (flexB c k lv ts (i + 1)).2) else flexB c k lv ts (i + 1)
def flex (c : Ic) (v : Iv) (y : Int) (l : List Tm) (k : Int) : Tm × Iv :=
  let a := v.S.args y l v.f
  if a.2.2 ≠ 0 then v.fail a.2.2
  else
    let v := { v with f := a.2.1 }
    let lv := (v.S.info y).1.lv
    let A := flexA c k a.1.length a.1 0
    if A.1.length = a.1.length ∧ lv ≤ c.lv then (Tm.apply (leafT 4 y) A.2, v)
    else
      let B := flexB c k lv c.L 0
      let h := v.S.hang y (if c.lv < lv then c.lv else lv) a.1.length (A.1 ++ B.1)
      (Tm.apply h.1 (A.2 ++ B.2), { v with S := h.2 })
/-- Something for all terms of a list, one after the other. -/
def mapV (g : Iv → Tm → Tm × Iv) : Iv → List Tm → List Tm × Iv
  | v, [] => ([], v)
  | v, t :: ts => ((g v t).1 :: (mapV g (g v t).2 ts).1, (mapV g (g v t).2 ts).2)
def termF (c : Ic) : Nat → Iv → Tm → Int → Tm × Iv
  | 0, v, _, _ => if v.e ≠ 0 then (Tm.zero, v) else v.fail 80
  | m + 1, v, t, k =>
    if v.e ≠ 0 then (Tm.zero, v)
    else if v.f ≤ 0 then v.fail 80
    else
      let r := v.S.Head t (v.f - 1)
      if r.2.2 ≠ 0 then v.fail r.2.2
      else
        let v := { v with f := r.2.1 }
        let s := r.1.split
        if s.1.k = 5 then
          let q := termF c m v (s.1.l.getD 0 Tm.zero) (k + 1)
          (Tm.lams 1 q.1, q.2)
        else if s.1.k = 4 then
          if s.1.n = c.x then
            let a := v.S.args s.1.n s.2 v.f
            if a.2.2 ≠ 0 then v.fail a.2.2 else v.fail 170
          else c.flex v s.1.n s.2 k
        else
          let h := if s.1.k = 3 ∨ s.1.k = 1 then c.image s.1 k else (s.1, true)
          if h.2 = false then v.fail 170
          else
            let q := mapV (fun v t => termF c m v t k) v s.2
            (Tm.apply h.1 q.1, q.2)
end Ic
def St.invert (S : St) (x : Int) (l : List Tm) (t : Tm) (f : Int) : (Tm × Int × Int) × St :=
  if (S.info x).2 = false ∨ (S.info x).1.bd = true ∨ t.valid = false ∨ l.any (fun u => !u.isLeaf) = true then ((Tm.zero, 0, 1), S)
  else
    let q := Ic.termF ⟨x, (S.info x).1.lv, l⟩ f.toNat ⟨S, f, 0⟩ t 0
    if q.2.e ≠ 0 then ((Tm.zero, 0, q.2.e), q.2.S) else ((Tm.lams l.length q.1, q.2.f, 0), q.2.S)
end Go.Proofs.Ytbdappbmlnpogaa
namespace Go.Proofs.Ytbdappbmlnpogaa
open Go Go.RowKit
set_option maxRecDepth 100000
/-- The cells of an inversion. -/
abbrev ivcells (s : Nat) (c : Ic) (la : Option Addr) (lc : Nat) (f e : Int) : Array Value := #[.pointer (some ⟨s, 0, none⟩), .int .i64 c.x, .int .i64 c.lv, .slice la c.L.length lc, .int .i64 f, .int .i64 e]
abbrev ivbox (s : Nat) (c : Ic) (la : Option Addr) (lc : Nat) (f e : Int) : Obj := .cells (ivcells s c la lc f e) 79 (0, 0)
theorem blk6_set5 {w : World} {b : Nat} {v0 v1 v2 v3 v4 v5 u : Value} {T : TypeId} (h : w.heap[b]? = some (.cells #[v0, v1, v2, v3, v4, v5] T (0, 0))) : (w.setCell ⟨b, 5, none⟩ u).heap[b]? = some (.cells #[v0, v1, v2, v3, v4, u] T (0, 0)) := by
  simp [World.setCell, Array.getElem?_modify, h]
theorem blk6_set4 {w : World} {b : Nat} {v0 v1 v2 v3 v4 v5 u : Value} {T : TypeId} (h : w.heap[b]? = some (.cells #[v0, v1, v2, v3, v4, v5] T (0, 0))) : (w.setCell ⟨b, 4, none⟩ u).heap[b]? = some (.cells #[v0, v1, v2, v3, u, v5] T (0, 0)) := by
  simp [World.setCell, Array.getElem?_modify, h]
def FailPost (vb s : Nat) (c : Ic) (la : Option Addr) (lc : Nat) (H : GH) (w : World) (f e er : Int) (en : Ending) (w' : World) : Prop :=
  en = .returned (.agg #[.int .i64 0, .string ⟨#[]⟩, .int .i64 0, .slice none 0 0]) ∧ Ext (fun k => k = vb) H w H w' ∧ w'.heap[vb]? = some (ivbox s c la lc f (if e = 0 then er else e))
set_option maxHeartbeats 2000000 in
theorem invert_fail (vb s : Nat) (c : Ic) (la : Option Addr) (lc : Nat) (H : GH) (w : World) (f e er : Int) (hA : Agree H w) (hvb : w.heap[vb]? = some (ivbox s c la lc f e)) (hH : H vb = none) :
    Calls Try.prog 65 #[.pointer (some ⟨vb, 0, none⟩), .int .i64 er] w (FailPost vb s c la lc H w f e er) := by
  obtain ⟨p0, p1, p2, p3, p4, p5, p6⟩ := box6 hvb
  have f5 := (blk_cells hvb 5).2
  by_cases he : e = 0
  · subst he
    have T0 : Ext (fun k => k = vb) H w H (w.setCell ⟨vb, 5, none⟩ (.int .i64 er)) := (Ext.refl (O := fun k => k = vb) hA).setCell (p := ⟨vb, 5, none⟩) hH (fun _ => rfl) _
    have E0 := Lib.hid (T0.alloc zbox)
    have B0 := Lib.hid (Below.blk (below_alloc _ zbox) (blk6_set5 (u := .int .i64 er) hvb))
    go_enter Try.func65, Try.ntmps65
    go_wp2_with fail
    refine bodyPost_ret (v := .agg #[.int .i64 0, .string ⟨#[]⟩, .int .i64 0, .slice none 0 0]) (by simp [results, Try.results65, go_sem]) rfl ?_
    exact ⟨rfl, E0.out, by rw [if_pos rfl]; exact B0.out⟩
  · have he' : (e == 0) = false := beq_eq_false_iff_ne.2 he
    have E0 := Lib.hid ((Ext.refl (O := fun k => k = vb) hA).alloc zbox)
    have B0 := Lib.hid (Below.blk (below_alloc _ zbox) hvb)
    go_enter Try.func65, Try.ntmps65
    go_wp2_with fail
    refine bodyPost_ret (v := .agg #[.int .i64 0, .string ⟨#[]⟩, .int .i64 0, .slice none 0 0]) (by simp [results, Try.results65, go_sem]) rfl ?_
    exact ⟨rfl, E0.out, by rw [if_neg he]; exact B0.out⟩
end Go.Proofs.Ytbdappbmlnpogaa
namespace Go.Proofs.Ytbdappbmlnpogaa
open Go Go.RowKit
set_option maxRecDepth 100000
def HangPost (F : Nat → Prop) (H : GH) (w : World) (s : Nat) (S : St) (x level lams : Int) (on : List Tm) (e : Ending) (w' : World) : Prop :=
  ∃ H' cs', e = .returned (.agg cs'.toArray) ∧ Ext F H w H' w' ∧ Rep H' (S.hang x level lams on).1 cs' ∧ StAt H' w' (fun k => F k ∨ w.heap.size ≤ k) s (S.hang x level lams on).2
set_option maxHeartbeats 8000000 in
theorem invert_hang {F : Nat → Prop} (H : GH) (w : World) (s : Nat) (S : St) (x level lams : Int) (on : List Tm) (v : Value) (hA : Agree H w) (hS : StAt H w F s S) (hx : I64 x) (hl : I64 level) (hn : S.V.length ≤ 1073741824) (hnT : S.T.length ≤ 1073741824) (hlm : lams ≤ 1073741824) (ho : Tms H v on)
    (hsz : (Tm.lams lams (Tm.apply (leafT 4 S.V.length) on)).size ≤ SB) :
    Calls Try.prog 32 #[.pointer (some ⟨s, 0, none⟩), .int .i64 x, .int .i64 level, .int .i64 lams, v] w (HangPost F H w s S x level lams on) := by
  have E0 := Lib.hid ((Ext.refl (O := fun _ => False) hA).alloc zbox)
  have B0 := Lib.hid (heap_alloc_new w zbox)
  have hfr := Lib.hid (store_Fresh H _ s S level E0.out.agree (hS.tight.pure E0.out) hl hn)
  have hT := Lib.hid hS.tight
  have hn0 := hA.free (Nat.le_refl _)
  obtain ⟨va, vc, rfl, -, -⟩ := ho.form
  have hsF := hS.lt
  go_enter Try.func32, Try.ntmps32
  go_wp2_with fail
  refine hfr.out.mono ?_
  rintro e w1 ⟨rfl, X1, S1⟩
  have hz0 : w.heap.size < (w.alloc zbox).heap.size := by simp
  have B1 := Lib.hid ((X1.block w.heap.size hz0 (by omega)).trans B0.out)
  have hvar := Lib.hid (invert_variable H w1 S.V.length (by unfold I64; omega))
  clear hfr
  go_wp2_with fail
  refine hvar.out.mono ?_
  rintro e w2 ⟨hcs, rfl, hb2, R2⟩
  have A1 := X1.agree
  have E2 := Lib.hid (((E0.out.mono (O' := F) (fun _ h => h.elim)).trans X1 (fun k hk h => hk.1)).then_below hb2)
  have S2 := Lib.hid (S1.tight.below A1 hb2)
  have hz1 : w.heap.size < w1.heap.size := cell_lt B1.out
  have hz2 : w1.heap.size ≤ w2.heap.size := hb2.size
  have HZ := Lib.hid (show w.heap.size < w1.heap.size ∧ w1.heap.size ≤ w2.heap.size from ⟨hz1, hz2⟩)
  have B2 := Lib.hid (Below.blk hb2 B1.out)
  have k0 : H w.heap.size = none := hn0
  have hH : Hid (S.hang x level lams on = (leafT 4 S.V.length, ((S.fresh level).bind x (Tm.lams lams (Tm.apply (leafT 4 S.V.length) on))).1)) := Lib.hid rfl
  generalize hY : leafT 4 (S.V.length : Int) = Y at *
  have HY := Lib.hid hY
  have HR2 := Lib.hid R2
  have hd6 : Y.hd6 := by rw [← hY]; intro h; cases h
  have hlb : (Y.apply on).l.length ≤ LB := by
    have h4 : (Y.apply on).l.length < (Y.apply on).size := by cases Y.apply on with | mk k s n l => exact Tm.length_lt k s n l
    have h5 := lams_size lams.toNat (Y.apply on)
    unfold Tm.lams at hsz
    unfold SB at hsz
    unfold LB
    omega
  obtain ⟨ya, yc, rfl, -, -, -, -⟩ := R2.open_
  have E3 := Lib.hid (E2.out.alloc (tbox Y ya yc))
  have S3 := Lib.hid (S2.out.below E2.out.agree (below_alloc w2 (tbox Y ya yc)))
  have B3 := Lib.hid (heap_alloc_new w2 (tbox Y ya yc))
  have B3' := Lib.hid (Below.blk (below_alloc w2 (tbox Y ya yc)) B2.out)
  have hap := Lib.hid (term_Apply Y _ on _ H _ HR2.out ho E3.out.agree hd6 hlb)
  clear hvar X1 S1 hb2 R2 hY hlb hd6
  go_wp2_with fail
  refine hap.out.mono ?_
  rintro e w4 ⟨H4, acs, rfl, X4, R4⟩
  have hlam := Lib.hid (term_Lams lams (Y.apply on) acs H4 w4 (by unfold LB; omega) X4.agree R4)
  obtain ⟨aa, ac, rfl, -, -, -, -⟩ := R4.open_
  have E4 := Lib.hid (E3.out.then X4)
  have S4 := Lib.hid (S3.out.pure X4)
  have B4 := Lib.hid (Below.blk X4.below B3.out)
  have B4' := Lib.hid (Below.blk X4.below B3'.out)
  have hX4 := Lib.hid X4
  clear hap X4 R4
  go_wp2_with fail
  refine hlam.out.mono ?_
  rintro e w5 ⟨H5, lcs, rfl, X5, R5⟩
  have hbd := Lib.hid (store_Bind H5 w5 s (S.fresh level) x (Tm.lams lams (Y.apply on)) lcs X5.agree (S4.out.pure X5) R5 hx hsz hnT)
  obtain ⟨ba, bc, rfl, -, -, -, -⟩ := R5.open_
  have E5 := Lib.hid (E4.out.then X5)
  have B5 := Lib.hid (Below.blk X5.below B4.out)
  have B5' := Lib.hid (Below.blk X5.below B4'.out)
  have hs5 := Lib.hid (Sub.trans hX4.out.sub X5.sub)
  have k5 : H5 w.heap.size = none := (X5.old _ (cell_lt B4'.out)).trans ((hX4.out.old _ (cell_lt B3'.out)).trans k0)
  clear hlam X5 R5
  go_wp2_with fail
  refine hbd.out.mono ?_
  rintro e w6 ⟨rfl, X6, S6⟩
  have hz := HZ.out
  have B6 := Lib.hid ((X6.block _ (cell_lt B5.out) (by simp; omega)).trans B5.out)
  have B6' := Lib.hid ((X6.block _ (cell_lt B5'.out) (by simp; omega)).trans B5'.out)
  have E6 := Lib.hid (E5.out.trans X6 (fun k hk h => by simp at hk; rcases hk with ⟨h | h, h'⟩; exact h.1; omega))
  obtain ⟨p0, p1, p2, p3, p4, p5, p6, p7, p8⟩ := box4 B6.out
  obtain ⟨q0, q1, q2, q3, q4, q5, q6, q7, q8⟩ := box4 B6'.out
  have E7 := Lib.hid (E6.out.store4 k5 (Nat.le_refl _) (.int .i64 Y.k) (.string Y.s) (.int .i64 Y.n) (.slice ya Y.l.length yc))
  clear hbd X6
  go_wp2_with fail
  have T : Ext (fun k => k = w.heap.size) H5 w6 H5 ((((w6.setCell ⟨w.heap.size, 0, none⟩ (.int .i64 Y.k)).setCell ⟨w.heap.size, 1, none⟩ (.string Y.s)).setCell ⟨w.heap.size, 2, none⟩ (.int .i64 Y.n)).setCell ⟨w.heap.size, 3, none⟩ (.slice ya Y.l.length yc)) :=
    ((((Ext.refl (O := fun k => k = w.heap.size) E6.out.agree).setCell (p := ⟨w.heap.size, 0, none⟩) k5 (fun _ => rfl) _).setCell (p := ⟨w.heap.size, 1, none⟩) k5 (fun _ => rfl) _).setCell (p := ⟨w.heap.size, 2, none⟩) k5 (fun _ => rfl) _).setCell (p := ⟨w.heap.size, 3, none⟩) k5 (fun _ => rfl) _
  have hz5 : w.heap.size < w5.heap.size := cell_lt B5'.out
  have S7 := (S6.ext T (fun k hk hF => by subst hk; simp at hF; omega)).mono (F' := fun k => F k ∨ w.heap.size ≤ k) (fun k hk => by
    rcases hk with ⟨h | h, -⟩ | h
    · exact .inl h.1
    · exact .inr (by simp at h; omega)
    · exact .inr (by omega))
  refine bodyPost_ret (v := .agg #[.int .i64 Y.k, .string Y.s, .int .i64 Y.n, .slice ya Y.l.length yc]) (by simp [results, Try.results32, go_sem, q0, q1, q2, q3, q4]) rfl ?_
  unfold HangPost
  rw [hH.out]
  exact ⟨H5, _, rfl, E7.out, HR2.out.mono hs5.out, S7⟩
end Go.Proofs.Ytbdappbmlnpogaa
namespace Go.Proofs.Ytbdappbmlnpogaa
open Go Go.RowKit
set_option maxRecDepth 100000
def BoolP (b : Bool) (cs : List Value) : Prop := cs = [.bool b]
theorem pruneOn_append (n : Int) (a b : List Bool) : ∀ k, St.pruneOn n (a ++ b) k = St.pruneOn n a k ++ St.pruneOn n b (k + a.length) := by
  induction a with
  | nil => intro k; simp [St.pruneOn]
  | cons x xs ih =>
    intro k
    rw [List.cons_append, St.pruneOn, St.pruneOn]
    have e : k + ((x :: xs).length : Int) = k + 1 + xs.length := by simp; omega
    rw [e]
    split
    · rw [ih]; rfl
    · rw [ih]
theorem pruneOn_take (n : Int) (l : List Bool) (j : Nat) (b : Bool) (h : l[j]? = some b) : St.pruneOn n (l.take (j + 1)) 0 = St.pruneOn n (l.take j) 0 ++ (if b then [leafT 3 (n - 1 - j)] else []) := by
  have hj := (List.getElem?_eq_some_iff.1 h).1
  rw [List.take_add_one, h, pruneOn_append]
  have : ((l.take j).length : Int) = j := by rw [List.length_take]; omega
  rw [this]
  cases b <;> simp [St.pruneOn]
theorem pruneOn_len (n : Int) (l : List Bool) : ∀ k, (St.pruneOn n l k).length ≤ l.length := by
  induction l with
  | nil => intro k; simp [St.pruneOn]
  | cons x xs ih =>
    intro k
    have := ih (k + 1)
    rw [St.pruneOn]
    split <;> simp <;> omega
def PruneRel (H : GH) (w : World) (n : Int) (keep : List Bool) (v i : Value) (wr : World) : Prop :=
  ∃ (j : Nat), j ≤ keep.length ∧ i = .int .i64 j ∧ Pure H w H wr ∧ Own H wr w.heap.size 30 4 (Rep H) v (St.pruneOn n (keep.take j) 0)
def PrunePost (F : Nat → Prop) (H : GH) (w : World) (s : Nat) (S : St) (x : Int) (keep : List Bool) (e : Ending) (w' : World) : Prop :=
  ∃ H', e = .returned (.int .i64 (S.prune x keep).2) ∧ Ext F H w H' w' ∧ StAt H' w' (fun k => F k ∨ w.heap.size ≤ k) s (S.prune x keep).1
theorem prune_no {F : Nat → Prop} {H : GH} {w w' : World} {s : Nat} {S : St} {x : Int} {keep : List Bool} (hS : StAt H w F s S) (hx : Pure H w H w') (hb : (S.info x).2 = false ∨ (S.info x).1.bd = true) : PrunePost F H w s S x keep (.returned (.int .i64 1)) w' := by
  have : S.prune x keep = (S, 1) := by unfold St.prune; rw [if_pos hb]
  unfold PrunePost
  rw [this]
  exact ⟨H, rfl, hx.mono (fun _ h => h.elim), (hS.pure hx).mono (fun _ h => .inl h)⟩
theorem sizeL_pruneOn (n : Int) (l : List Bool) : ∀ k, Tm.sizeL (St.pruneOn n l k) ≤ l.length := by
  induction l with
  | nil => intro k; simp [St.pruneOn]
  | cons x xs ih =>
    intro k
    have := ih (k + 1)
    rw [St.pruneOn]
    split
    · rw [Tm.sizeL_cons]
      have : (leafT 3 (n - 1 - k)).size = 1 := by unfold leafT; rw [Tm.size_mk]; simp
      simp only [List.length_cons]; omega
    · simp only [List.length_cons]; omega
end Go.Proofs.Ytbdappbmlnpogaa
namespace Go.Proofs.Ytbdappbmlnpogaa
open Go Go.RowKit
set_option maxRecDepth 100000
theorem size_leafT (k n : Int) : (leafT k n).size = 1 := by unfold leafT; rw [Tm.size_mk]; simp
set_option maxHeartbeats 8000000 in
theorem invert_Prune {F : Nat → Prop} (H : GH) (w : World) (s : Nat) (S : St) (x : Int) (keep : List Bool) (v : Value) (hA : Agree H w) (hS : StAt H w F s S) (hx : I64 x) (hK : Sl H 1 BoolP v keep) (hk : keep.length ≤ 1048576) (hn : S.V.length ≤ 1073741824) (hnT : S.T.length ≤ 1073741824) :
    Calls Try.prog 12 #[.pointer (some ⟨s, 0, none⟩), .int .i64 x, v] w (PrunePost F H w s S x keep) := by
  have hinf := Lib.hid (store_Info H w s S x hS)
  have HS := Lib.hid hS
  have HT := Lib.hid hS.tight
  have NO := Lib.hid (fun w' hx => prune_no (w' := w') (x := x) (keep := keep) hS hx)
  obtain ⟨ka, kc, rfl, hkl, hkm⟩ := hK.form
  generalize hI : S.info x = I at *
  obtain ⟨i, ok⟩ := I
  have HI := Lib.hid hI
  have HK := Lib.hid hK
  clear hI hK
  go_enter Try.func12, Try.ntmps12
  go_wp2_with fail
  refine hinf.out.mono ?_
  rintro e w1 ⟨ics, rfl, hb1, hRI⟩
  have E1 := Lib.hid (Ext.of_below (O := fun _ => False) hA hb1)
  obtain ⟨tcs, rfl, hR1, hlv⟩ := hRI
  obtain ⟨ia, ic, rfl, -, -, -, -⟩ := hR1.open_
  have B2 := Lib.hid (heap_alloc_new w1 (.cells #[.int .i64 i.lv, .bool i.bd, .int .i64 i.vl.k, .string i.vl.s, .int .i64 i.vl.n, .slice ia i.vl.l.length ic] 37 (0, 0)))
  have E2 := Lib.hid (E1.out.alloc (.cells #[.int .i64 i.lv, .bool i.bd, .int .i64 i.vl.k, .string i.vl.s, .int .i64 i.vl.n, .slice ia i.vl.l.length ic] 37 (0, 0)))
  clear hinf
  cases ok with
  | false =>
    go_wp2_with fail
    go_ret
    exact NO.out _ E2.out (by simp)
  | true =>
    cases hbd : i.bd with
    | true =>
      have hbd' := Lib.hid hbd
      rw [hbd] at E2
      go_wp2_with fail
      go_ret
      exact NO.out _ E2.out (by simp [hbd'.out])
    | false =>
      have hbd' := Lib.hid hbd
      rw [hbd] at E2 B2
      have hin : S.info x = (i, true) := HI.out
      have hpr := Lib.hid (show S.prune x keep = ((S.hang x i.lv keep.length (St.pruneOn keep.length keep 0)).2, 0) by unfold St.prune; rw [hin]; simp [hbd'.out])
      have hz1 : w1.heap.size < (w1.alloc (.cells #[.int .i64 i.lv, .bool false, .int .i64 i.vl.k, .string i.vl.s, .int .i64 i.vl.n, .slice ia i.vl.l.length ic] 37 (0, 0))).heap.size := by simp
      have HZ1 := Lib.hid hz1
      have hkN : (keep.length : Int) ≤ 1048576 := by omega
      clear hz1
      go_wp2_with fail
      go_loopw [9, 26] (fun v j wr => PruneRel H (w1.alloc (.cells #[.int .i64 i.lv, .bool false, .int .i64 i.vl.k, .string i.vl.s, .int .i64 i.vl.n, .slice ia i.vl.l.length ic] 37 (0, 0))) keep.length keep v j wr) (fun _ j _ => keep.length - (intOf j).toNat)
      case atStart => exact ⟨0, Nat.zero_le _, rfl, Ext.refl E2.out.agree, by simp [St.pruneOn]; exact Own.nil _ _ _ _ _ _⟩
      case round =>
        obtain ⟨j, hj, rfl, EC, own⟩ := hrel
        obtain ⟨oa, oc, rfl, hol, hom⟩ := own.form
        have HEC := Lib.hid EC
        have HOWN := Lib.hid own
        clear EC own
        by_cases hlt : j < keep.length
        · obtain ⟨b, hb⟩ : ∃ b, keep[j]? = some b := ⟨_, List.getElem?_eq_getElem hlt⟩
          obtain ⟨kb, ko, cs, rfl, -, rfl, hcell⟩ := HK.out.get hb
          have c0 := HEC.out.agree.cell (hcell 0 _ rfl)
          simp only [Nat.add_zero, Nat.mul_one] at c0
          have hbl := World.block_lt_of_cell? wr _ c0
          have HB := Lib.hid hb
          clear hb hcell
          have hbn := Lib.hid (fun W => invert_bound H W (keep.length - 1 - j) (by unfold I64; omega))
          have HLN := Lib.hid (show (St.pruneOn keep.length (keep.take j) 0).length + 1 ≤ 2513169434916 by have := pruneOn_len keep.length (keep.take j) 0; rw [List.length_take] at this; omega)
          cases b with
          | false =>
            go_wp2_with fail
            go_roundw
            case rel =>
              refine ⟨j + 1, by omega, by go_num, HEC.out, ?_⟩
              have := pruneOn_take keep.length keep j false HB.out
              simp at this
              rw [this]
              exact HOWN.out
            case measure => simp [intOf]; omega
          | true =>
            go_wp2_with fail
            refine (hbn.out _).mono ?_
            rintro e w2 ⟨cs2, rfl, hb2, R2⟩
            have own2 := HOWN.out.below hb2
            have E2' := HEC.out.then_below hb2
            obtain ⟨xa, xc, rfl, -, -, -, -⟩ := R2.open_
            go_wp2_with (at_builtin; refine wpList_own1 rfl _ _ rfl isSl_tms (.slice oa (St.pruneOn keep.length (keep.take j) 0).length oc) rfl w2.heap.size 1 rfl (own2.alloc _) (E2'.agree.alloc _) (Nat.le_trans E2'.size (by simp)) _ (heap_alloc_new w2 _) _ R2 rfl R2.one (by have := HLN.out; unfold maxLen; omega) (by have := HLN.out; omega) ?_; intro v' w' own' hg' hb')
            go_roundw
            case rel =>
              refine ⟨j + 1, by omega, by go_num, (E2'.alloc _).grown hg' own2.free (fun g hg hlt => absurd hlt (Nat.not_lt.2 (own2.lt g hg).1)), ?_⟩
              have := pruneOn_take keep.length keep j true HB.out
              simp at this
              rw [this]
              exact own'
            case measure => simp [intOf]; omega
        · have hjl : j = keep.length := by omega
          have hown := HOWN.out
          rw [hjl, List.take_length] at hown
          rw [hjl, List.take_length]
          obtain ⟨H2, X2, hs2, ho2, hT2⟩ := hown.freeze_ext HEC.out (Nat.le_refl _) (fun _ _ h => h.len)
          have hT2 : Tms H2 _ (St.pruneOn keep.length keep 0) := Sl.mono (Sub.refl _) (fun _ _ _ h => Rep.mono hs2 h) hT2
          have q1 := Below.blk X2.below B2.out
          obtain ⟨r0, r1, r2, r3, r4, r5, r6⟩ := box6 q1
          have EF := Lib.hid (E2.out.then X2)
          have hsz := sizeL_pruneOn keep.length keep 0
          have hap := (Tm.apply_size (leafT 4 S.V.length) (St.pruneOn keep.length keep 0)).1
          have hla := lams_size keep.length (Tm.apply (leafT 4 S.V.length) (St.pruneOn keep.length keep 0))
          rw [size_leafT] at hap
          have hhg := Lib.hid (invert_hang H2 wr s S x i.lv keep.length (St.pruneOn keep.length keep 0) _ EF.out.agree (HT.out.pure EF.out) hx hlv hn hnT (by omega) hT2 (by unfold Tm.lams SB; simp only [Int.toNat_natCast]; omega))
          clear hown hT2 q1 hsz hap hla hs2 ho2 X2
          go_wp2_with fail
          refine hhg.out.mono ?_
          rintro e w3 ⟨H3, cs3, rfl, X3, R3, S3⟩
          obtain ⟨xa, xc, rfl, -, -, -, -⟩ := R3.open_
          go_wp2_with fail
          go_ret
          unfold PrunePost
          rw [hpr.out]
          refine ⟨H3, rfl, (EF.out.mono (O' := F) (fun _ h => h.elim)).trans X3 (fun k hk _ => hk.1), S3.mono fun k hk => ?_⟩
          rcases hk with h | h
          · exact .inl h.1
          · exact .inr (Nat.le_trans EF.out.size h)
end Go.Proofs.Ytbdappbmlnpogaa
namespace Go.Proofs.Ytbdappbmlnpogaa
open Go Go.RowKit
set_option maxRecDepth 100000
/-- What Full gives where there is no error. -/
theorem full_left {S : St} {M : Nat} {B : Int} {t : Tm} {f : Int} (hok : S.Ok M B) (hb : t.valid = true → t.bnd B = true) (hsz : t.size + f.toNat * M + M ≤ SB) (hB : B + f.toNat * SB + SB ≤ Tm.far) (he : (S.Full t f).2.2 = 0) :
    Tm.Fit (t.size + f.toNat * M) (B + f.toNat * SB) (S.Full t f).1 ∧ 0 ≤ (S.Full t f).2.1 ∧ (S.Full t f).2.1 ≤ f ∧ (S.Full t f).1.size + (S.Full t f).2.1.toNat * M ≤ t.size + f.toNat * M := by
  unfold St.Full at he ⊢
  split at he
  · rename_i h; exact absurd he h
  · rename_i h
    rw [if_neg h]
    simp only [ne_eq, Decidable.not_not] at h
    unfold St.runV at h ⊢
    split at h
    · simp at h
    · rename_i hv
      have hv : t.valid = true := by simpa using hv
      rw [if_neg (by simp [hv])]
      split at h
      · rename_i h0; exact absurd h h0
      · rename_i h0
        rw [if_neg h0]
        have h0 : (S.full t f).2.1 = 0 := by simpa using h0
        obtain ⟨a1, a2, a3, a4, a5⟩ := St.full_fit S M f.toNat B f.toNat (Nat.le_refl _) hok (by omega) t f (Nat.le_refl _) hv (hb hv) (by omega) h0
        dsimp only
        have hf : Tm.Fit (t.size + f.toNat * M) (B + f.toNat * SB) (S.full t f).1 := ⟨a1, by show (St.fullF S f.toNat t f).1.size ≤ _; omega, a5⟩
        obtain ⟨b1, b2⟩ := Tm.short_fit _ _ _ hf
        have a1' : (S.full t f).1.valid = true := a1
        have hsv : (S.full t f).1.shortV = (S.full t f).1.short := by unfold Tm.shortV; rw [if_pos a1']
        rw [hsv]
        refine ⟨b1, a3, a2, ?_⟩
        have : (S.full t f).1.size + (S.full t f).2.2.toNat * M ≤ t.size + f.toNat * M := a4
        omega
theorem leafV_k1 {t : Tm} (h : (t.leafV.1.k == 1) = true) : t.leafV.2 = true := by
  unfold Tm.leafV at h ⊢
  split at h
  · split at h
    · rename_i h1 h2; rw [if_pos h1, if_pos h2]
    · cases h
  · cases h
def ArgsPost (H : GH) (w : World) (r : List Tm × Int × Int) (e : Ending) (w' : World) : Prop :=
  ∃ H' v, e = .returned (.tuple #[v, .int .i64 r.2.1, .int .i64 r.2.2]) ∧ Pure H w H' w' ∧ Tms H' v r.1
def ArgsRel (S : St) (lv : Int) (l : List Tm) (f : Int) (R : List Tm × Int × Int) (H : GH) (W : World) (fv v i : Value) (wr : World) : Prop :=
  ∃ (j : Nat) (Hc : GH) (out : List Tm) (f' : Int), j ≤ l.length ∧ fv = .int .i64 f' ∧ i = .int .i64 j ∧ out.length ≤ j ∧ R = S.argsL lv out (l.drop j) f' ∧ f'.toNat ≤ f.toNat ∧ I64 f' ∧ Pure H W Hc wr ∧ Own Hc wr W.heap.size 30 4 (Rep Hc) v out
theorem args_no {H H' : GH} {w w' : World} {r : List Tm × Int × Int} {er : Int} (h : Pure H w H' w') (hr : r = ([], 0, er)) : ArgsPost H w r (.returned (.tuple #[.slice none 0 0, .int .i64 0, .int .i64 er])) w' := by
  subst hr
  exact ⟨H', _, rfl, h, Sl.nil _ _ _⟩
set_option maxHeartbeats 16000000 in
theorem invert_Args {F : Nat → Prop} (H : GH) (w : World) (s : Nat) (S : St) (M : Nat) (B : Int) (x : Int) (l : List Tm) (v : Value) (f : Int) (hA : Agree H w) (hS : StAt H w F s S) (hK : Tms H v l) (hk : l.length ≤ 1073741824)
    (hb : ∀ t ∈ l, t.valid = true → t.bnd B = true) (hok : S.Ok M B) (hsz : ∀ t ∈ l, t.size + f.toNat * M + M ≤ SB) (hB : B + f.toNat * SB + SB ≤ Tm.far) (hf : I64 f) :
    Calls Try.prog 20 #[.pointer (some ⟨s, 0, none⟩), .int .i64 x, v, .int .i64 f] w (ArgsPost H w (S.args x l f)) := by
  have hinf := Lib.hid (store_Info H w s S x hS)
  have HS := Lib.hid hS.tight
  obtain ⟨ka, kc, rfl, hkl, hkm⟩ := hK.form
  have hodd := Lib.hid (fun W hW => containsFunc 40 #[] (by intro args w; go_simp) (fun t => !t.valid) H W (.slice ka l.length kc) l hK hW (fun t _ cs' w' hw' hR' => invert_odd t cs' H w' hR' (hW.below hw')))
  have hargs := Lib.hid (show S.args x l f = if (S.info x).2 = false ∨ l.any (fun t => !t.valid) = true then ([], 0, 1) else S.argsL (S.info x).1.lv [] l f from rfl)
  generalize hI : S.info x = I at *
  obtain ⟨i, ok⟩ := I
  have HK := Lib.hid hK
  have HB := Lib.hid hb
  have HOK := Lib.hid hok
  have HSZ := Lib.hid hsz
  have HBF := Lib.hid hB
  clear hI hK hb hok hsz hB
  dsimp only at hargs
  go_enter Try.func20, Try.ntmps20
  go_wp2_with fail
  refine hinf.out.mono ?_
  rintro e w1 ⟨ics, rfl, hb1, hRI⟩
  have E1 := Lib.hid (Ext.of_below (O := fun _ => False) hA hb1)
  obtain ⟨tcs, rfl, hR1, hlv⟩ := hRI
  obtain ⟨ia, ic, rfl, -, -, -, -⟩ := hR1.open_
  have B2 := Lib.hid (heap_alloc_new w1 (.cells #[.int .i64 i.lv, .bool i.bd, .int .i64 i.vl.k, .string i.vl.s, .int .i64 i.vl.n, .slice ia i.vl.l.length ic] 37 (0, 0)))
  have E2 := Lib.hid (E1.out.alloc (.cells #[.int .i64 i.lv, .bool i.bd, .int .i64 i.vl.k, .string i.vl.s, .int .i64 i.vl.n, .slice ia i.vl.l.length ic] 37 (0, 0)))
  clear hinf hR1
  cases ok with
  | false =>
    go_wp2_with fail
    refine bodyPost_ret (v := .tuple #[.slice none 0 0, .int .i64 0, .int .i64 1]) (by simp [results, Try.results20, go_sem]) rfl ?_
    exact args_no E2.out (by rw [hargs.out]; simp)
  | true =>
    go_wp2_with fail
    refine (hodd.out _ E2.out.agree).mono ?_
    rintro e w2 ⟨rfl, hb2⟩
    have E3 := Lib.hid (E2.out.then_below hb2)
    have B3 := Lib.hid (Below.blk hb2 B2.out)
    cases hod : l.any (fun t => !t.valid) with
    | true =>
      have HOD := Lib.hid hod
      clear hod
      go_wp2_with fail
      refine bodyPost_ret (v := .tuple #[.slice none 0 0, .int .i64 0, .int .i64 1]) (by simp [results, Try.results20, go_sem]) rfl ?_
      exact args_no E3.out (by rw [hargs.out, HOD.out]; simp)
    | false =>
      have HOD := Lib.hid hod
      have hargs2 := Lib.hid (show S.args x l f = S.argsL i.lv [] l f by rw [hargs.out, hod]; simp)
      have hkN : (l.length : Int) ≤ 1073741824 := by omega
      have HS3 := Lib.hid (HS.out.pure E3.out)
      clear hod hodd
      go_wp2_with fail
      go_loopw [3, 13, 37] (fun fv v j wr => ArgsRel S i.lv l f (S.args x l f) H w2 fv v j wr) (fun _ _ j _ => l.length - (intOf j).toNat)
      case atStart => exact ⟨0, H, [], f, Nat.zero_le _, rfl, rfl, Nat.le_refl _, by rw [hargs2.out]; rfl, Nat.le_refl _, hf, Ext.refl E3.out.agree, Own.nil _ _ _ _ _ _⟩
      case round =>
        obtain ⟨j, Hc, out, f', hj, rfl, rfl, hoj, hR, hff, hf', EC, own⟩ := hrel
        obtain ⟨oa, oc, rfl, hol, hom⟩ := own.form
        have HEC := Lib.hid EC
        have HOWN := Lib.hid own
        have HR := Lib.hid hR
        have HB3 := Lib.hid (Below.blk EC.below B3.out)
        clear EC own hR
        by_cases hlt : j < l.length
        · obtain ⟨t, ht⟩ : ∃ t, l[j]? = some t := ⟨_, List.getElem?_eq_getElem hlt⟩
          obtain ⟨kb, ko, cs, rfl, -, hRt, hcell⟩ := HK.out.get ht
          have htm := List.mem_of_getElem? ht
          have hdr : l.drop j = t :: l.drop (j + 1) := by
            have e1 : l[j] = t := by rw [List.getElem?_eq_getElem hlt] at ht; injection ht
            rw [List.drop_eq_getElem_cons hlt, e1]
          have HDR := Lib.hid hdr
          have hmul : f'.toNat * M ≤ f.toNat * M := Nat.mul_le_mul_right _ hff
          have hmul2 : (f'.toNat : Int) * SB ≤ f.toNat * SB := Int.mul_le_mul_of_nonneg_right (by omega) (by omega)
          have hs1 := HSZ.out t htm
          have hs2 := HBF.out
          have hful := Lib.hid (fun W hW => store_Full Hc W s S M B t f' cs (HEC.out.then hW).agree ((HS3.out.pure HEC.out).pure hW) (hRt.mono HEC.out.sub) (HB.out t htm) HOK.out (by omega) (by omega) hf')
          have HFL := Lib.hid (fun he => full_left (S := S) (M := M) (B := B) (t := t) (f := f') HOK.out (HB.out t htm) (by omega) (by omega) he)
          have HTM := Lib.hid hs1
          obtain ⟨ta, tc, rfl, -, -, -, -⟩ := hRt.open_
          have c0 := HEC.out.agree.cell (GH.cell?_mono HEC.out.sub (hcell 0 _ rfl))
          have c1 := HEC.out.agree.cell (GH.cell?_mono HEC.out.sub (hcell 1 _ rfl))
          have c2 := HEC.out.agree.cell (GH.cell?_mono HEC.out.sub (hcell 2 _ rfl))
          have c3 := HEC.out.agree.cell (GH.cell?_mono HEC.out.sub (hcell 3 _ rfl))
          simp only [Nat.add_zero, ← Nat.add_assoc] at c0 c1 c2 c3
          have hbl := World.block_lt_of_cell? wr _ c0
          have E4 := Lib.hid ((Ext.refl (O := fun _ => False) HEC.out.agree).alloc (tbox t ta tc))
          clear ht hcell hdr hs1 hs2 hmul hmul2 htm hRt
          have hstep := Lib.hid (show S.argsL i.lv out (t :: l.drop (j + 1)) f' = _ from (by rw [St.argsL]))
          have HRR := Lib.hid (HR.out.trans ((congrArg (fun q => S.argsL i.lv out q f') HDR.out).trans hstep.out))
          generalize hr : S.Full t f' = r at *
          obtain ⟨u, f2, er⟩ := r
          dsimp only at HRR HFL
          clear hr hstep
          go_wp2_with fail
          refine (hful.out _ E4.out).mono ?_
          unfold RunPost
          rintro e w3 ⟨H3, ucs, rfl, X3, R3⟩
          dsimp only at R3
          have E5 := Lib.hid (HEC.out.then (E4.out.then X3))
          have OWN5 := Lib.hid (HOWN.out.pure (E4.out.then X3) (fun _ _ h => Rep.mono (E4.out.then X3).sub h))
          have HB5 := Lib.hid (Below.blk (E4.out.then X3).below HB3.out)
          have hleaf := Lib.hid (fun W hW hsz => eta_Leaf u ucs H3 W R3 hW hsz)
          obtain ⟨ua, uc, rfl, -, -, -, -⟩ := R3.open_
          have E6 := Lib.hid (E5.out.alloc (tbox u ua uc))
          have B6 := Lib.hid (heap_alloc_new w3 (tbox u ua uc))
          clear hful R3 X3
          by_cases her : er = 0
          · subst her
            rw [if_neg (by simp)] at HRR
            obtain ⟨g1, g2, g3, g4⟩ := HFL.out rfl
            have hus := g1.s
            have hss := HTM.out
            have hmul : f'.toNat * M ≤ f.toNat * M := Nat.mul_le_mul_right _ hff
            have hlf := Lib.hid (hleaf.out _ E6.out.agree (by omega))
            have hf2 : I64 f2 := by unfold I64 at hf' ⊢; omega
            have hff2 : f2.toNat ≤ f.toNat := by omega
            have HF2 := Lib.hid (show I64 f2 ∧ f2.toNat ≤ f.toNat from ⟨hf2, hff2⟩)
            clear hleaf g1 g2 g3 g4 hus hss hmul hf2 hff2 HFL
            have hk1 := Lib.hid (leafV_k1 (t := u))
            generalize hL : u.leafV = L at *
            obtain ⟨lf, lok⟩ := L
            dsimp only at hk1
            have HL := Lib.hid hL
            clear hL
            go_wp2_with fail
            refine hlf.out.mono ?_
            unfold LeafPost
            rw [HL.out]
            rintro e w4 ⟨H4, lcs, rfl, X4, R4⟩
            dsimp only at R4
            have E7 := Lib.hid (E6.out.then X4)
            have OWN7 := Lib.hid ((OWN5.out.alloc (tbox u ua uc)).pure X4 (fun _ _ h => Rep.mono X4.sub h))
            have HB7 := Lib.hid (Below.blk X4.below (Below.blk (below_alloc _ (tbox u ua uc)) HB5.out))
            have HR4 := Lib.hid R4
            obtain ⟨la, lc, rfl, -, -, -, -⟩ := R4.open_
            have E8 := Lib.hid (E7.out.alloc (tbox lf la lc))
            have B8 := Lib.hid (heap_alloc_new w4 (tbox lf la lc))
            have HB8 := Lib.hid (Below.blk (below_alloc _ (tbox lf la lc)) HB7.out)
            have OWN8 := Lib.hid (OWN7.out.alloc (tbox lf la lc))
            obtain ⟨H5, X8, hs5, ho5, hT5⟩ := OWN8.out.freeze_ext E8.out (Nat.le_refl _) (fun _ _ h => h.len)
            have hT5 : Tms H5 _ out := Sl.mono (Sub.refl _) (fun _ _ _ h => Rep.mono hs5 h) hT5
            have hcon := Lib.hid (fun W (hW : Below (w4.alloc (tbox lf la lc)).heap.size (w4.alloc (tbox lf la lc)) W) => containsFunc 45 #[.pointer (some ⟨w4.heap.size, 0, none⟩)] (by intro args w; go_simp) (fun v => v.alike lf) H5 W (.slice oa out.length oc) out hT5 (X8.agree.below hW) (fun t _ cs' w' hw' hR' => invert_Args1 lf la lc w4.heap.size t cs' H5 w' hR' (HR4.out.mono hs5) (Below.blk (hW.trans (hw'.mono hW.size)) B8.out)))
            clear X4 R4 hlf X8 hs5 ho5 hT5
            obtain ⟨p0, p1, p2, p3, p4, p5, p6, p7, p8⟩ := box4 B8.out
            obtain ⟨q0, q1, q2, q3, q4, q5, q6⟩ := box6 HB8.out
            clear p5 p6 p7 p8
            have HLO := Lib.hid (show out.length + 1 ≤ 2513169434916 by omega)
            have R4' := HR4
            cases h1 : (lf.k == 1) with
            | true =>
              have hlk := hk1.out h1
              subst hlk
              have H1 := Lib.hid h1
              by_cases hnr : lf.n ≤ i.lv
              · go_wp2_with fail
                refine (hcon.out _ (Below.refl _ _)).mono ?_
                rintro e w5 ⟨rfl, hb5⟩
                go_wp2_with fail
                refine bodyPost_ret (v := .tuple #[.slice none 0 0, .int .i64 0, .int .i64 171]) (by simp [results, Try.results20, go_sem]) rfl ?_
                exact args_no (E3.out.then (E8.out.then_below hb5)) (by rw [HRR.out, if_pos (.inr (.inl ⟨beq_iff_eq.1 H1.out, hnr⟩))])
              · cases htw : out.any (fun v => v.alike lf) with
                | true =>
                  have HTW := Lib.hid htw
                  rw [htw] at hcon
                  clear htw
                  go_wp2_with fail
                  refine (hcon.out _ (Below.refl _ _)).mono ?_
                  rintro e w5 ⟨rfl, hb5⟩
                  go_wp2_with fail
                  refine bodyPost_ret (v := .tuple #[.slice none 0 0, .int .i64 0, .int .i64 171]) (by simp [results, Try.results20, go_sem]) rfl ?_
                  exact args_no (E3.out.then (E8.out.then_below hb5)) (by rw [HRR.out, if_pos (.inr (.inr HTW.out))])
                | false =>
                  have HTW := Lib.hid htw
                  rw [htw] at hcon
                  clear htw
                  go_wp2_with fail
                  refine (hcon.out _ (Below.refl _ _)).mono ?_
                  rintro e w5 ⟨rfl, hb5⟩
                  obtain ⟨p0, p1, p2, p3, p4, p5, p6, p7, p8⟩ := box4 (Below.blk hb5 B8.out)
                  have own5 := OWN8.out.below hb5
                  have E9 := E8.out.then_below hb5
                  go_wp2_with (at_builtin; refine wpList_own1 rfl _ _ rfl isSl_tms (.slice oa out.length oc) rfl w5.heap.size 1 rfl (own5.alloc _) (E9.agree.alloc _) (Nat.le_trans E9.size (by simp)) _ (heap_alloc_new w5 _) lf HR4.out rfl HR4.out.one (by have := HLO.out; unfold maxLen; omega) (by have := HLO.out; omega) ?_; intro v' w' own' hg' hb')
                  go_roundw
                  case rel =>
                    refine ⟨j + 1, H4, out ++ [lf], f2, by omega, rfl, by go_num, by simp; omega, ?_, HF2.out.2, HF2.out.1, (E9.alloc _).grown hg' own5.free (fun g hg hlt => absurd hlt (Nat.not_lt.2 (own5.lt g hg).1)), own'⟩
                    rw [HRR.out, if_neg]
                    rintro (h | ⟨-, h⟩ | h)
                    · cases h
                    · omega
                    · rw [HTW.out] at h; cases h
                  case measure => simp [intOf]; omega
            | false =>
              have H1 := Lib.hid h1
              cases lok with
              | false =>
                go_wp2_with fail
                refine (hcon.out _ (Below.refl _ _)).mono ?_
                rintro e w5 ⟨rfl, hb5⟩
                go_wp2_with fail
                refine bodyPost_ret (v := .tuple #[.slice none 0 0, .int .i64 0, .int .i64 171]) (by simp [results, Try.results20, go_sem]) rfl ?_
                exact args_no (E3.out.then (E8.out.then_below hb5)) (by rw [HRR.out, if_pos (by simp)])
              | true =>
                cases htw : out.any (fun v => v.alike lf) with
                | true =>
                  have HTW := Lib.hid htw
                  rw [htw] at hcon
                  clear htw
                  go_wp2_with fail
                  refine (hcon.out _ (Below.refl _ _)).mono ?_
                  rintro e w5 ⟨rfl, hb5⟩
                  go_wp2_with fail
                  refine bodyPost_ret (v := .tuple #[.slice none 0 0, .int .i64 0, .int .i64 171]) (by simp [results, Try.results20, go_sem]) rfl ?_
                  exact args_no (E3.out.then (E8.out.then_below hb5)) (by rw [HRR.out, if_pos (.inr (.inr HTW.out))])
                | false =>
                  have HTW := Lib.hid htw
                  rw [htw] at hcon
                  clear htw
                  go_wp2_with fail
                  refine (hcon.out _ (Below.refl _ _)).mono ?_
                  rintro e w5 ⟨rfl, hb5⟩
                  obtain ⟨p0, p1, p2, p3, p4, p5, p6, p7, p8⟩ := box4 (Below.blk hb5 B8.out)
                  have own5 := OWN8.out.below hb5
                  have E9 := E8.out.then_below hb5
                  go_wp2_with (at_builtin; refine wpList_own1 rfl _ _ rfl isSl_tms (.slice oa out.length oc) rfl w5.heap.size 1 rfl (own5.alloc _) (E9.agree.alloc _) (Nat.le_trans E9.size (by simp)) _ (heap_alloc_new w5 _) lf HR4.out rfl HR4.out.one (by have := HLO.out; unfold maxLen; omega) (by have := HLO.out; omega) ?_; intro v' w' own' hg' hb')
                  go_roundw
                  case rel =>
                    refine ⟨j + 1, H4, out ++ [lf], f2, by omega, rfl, by go_num, by simp; omega, ?_, HF2.out.2, HF2.out.1, (E9.alloc _).grown hg' own5.free (fun g hg hlt => absurd hlt (Nat.not_lt.2 (own5.lt g hg).1)), own'⟩
                    rw [HRR.out, if_neg]
                    rintro (h | ⟨h, -⟩ | h)
                    · cases h
                    · have := beq_eq_false_iff_ne.1 H1.out; exact this h
                    · rw [HTW.out] at h; cases h
                  case measure => simp [intOf]; omega
          · have her' : (er == 0) = false := beq_eq_false_iff_ne.2 her
            rw [if_pos her] at HRR
            go_wp2_with fail
            refine bodyPost_ret (v := .tuple #[.slice none 0 0, .int .i64 0, .int .i64 er]) (by simp [results, Try.results20, go_sem]) rfl ?_
            exact args_no (E3.out.then E6.out) HRR.out
        · have hjl : j = l.length := by omega
          obtain ⟨H2, X2, hs2, ho2, hT2⟩ := HOWN.out.freeze_ext HEC.out (Nat.le_refl _) (fun _ _ h => h.len)
          have hT2 : Tms H2 _ out := Sl.mono (Sub.refl _) (fun _ _ _ h => Rep.mono hs2 h) hT2
          have EF := Lib.hid (E3.out.then X2)
          have HT2 := Lib.hid hT2
          have hr := HR.out
          rw [hjl, List.drop_length, St.argsL] at hr
          have HRF := Lib.hid hr
          clear hr hT2 hs2 ho2 X2
          go_wp2_with fail
          refine bodyPost_ret (v := .tuple #[.slice oa out.length oc, .int .i64 f', .int .i64 0]) (by simp [results, Try.results20, go_sem]) rfl ?_
          unfold ArgsPost
          rw [HRF.out]
          exact ⟨H2, _, rfl, EF.out, HT2.out⟩
end Go.Proofs.Ytbdappbmlnpogaa
namespace Go.Proofs.Ytbdappbmlnpogaa
open Go Go.RowKit
set_option maxRecDepth 100000
theorem idx_lt {α : Type} (p : α → Bool) (l : List α) : ∀ (i : Int), 0 ≤ i → 0 ≤ idx p l i → idx p l i < i + l.length := by
  induction l with
  | nil => intro i _ h; simp [idx] at h
  | cons x xs ih =>
    intro i hi h
    rw [idx] at h ⊢
    split at h
    · rename_i hp; rw [if_pos hp]; simp only [List.length_cons]; omega
    · rename_i hp
      rw [if_neg hp]
      have := ih (i + 1) (by omega) h
      simp only [List.length_cons]; omega
theorem blk4_set2 {w : World} {b : Nat} {v0 v1 v2 v3 u : Value} {T : TypeId} (h : w.heap[b]? = some (.cells #[v0, v1, v2, v3] T (0, 0))) : (w.setCell ⟨b, 2, none⟩ u).heap[b]? = some (.cells #[v0, v1, u, v3] T (0, 0)) := by
  simp [World.setCell, Array.getElem?_modify, h]
theorem blk_far1 {w : World} {b k o : Nat} (u : Value) (h : k ≠ b) : (w.setCell ⟨b, o, none⟩ u).heap[k]? = w.heap[k]? := Below.heap_setCell w ⟨b, o, none⟩ u k h
def ImagePost (H : GH) (w : World) (r : Tm × Bool) (e : Ending) (w' : World) : Prop :=
  ∃ cs', e = .returned (.tuple #[.agg cs'.toArray, .bool r.2]) ∧ Pure H w H w' ∧ Rep H r.1 cs'
set_option maxHeartbeats 16000000 in
theorem invert_image (vb s : Nat) (c : Ic) (la : Option Addr) (lc : Nat) (H : GH) (w : World) (f e : Int) (t : Tm) (cs : List Value) (k : Int) (hA : Agree H w) (hvb : w.heap[vb]? = some (ivbox s c la lc f e)) (hL : Tms H (.slice la c.L.length lc) c.L) (hR : Rep H t cs) (hk0 : 0 ≤ k) (hk1 : k ≤ 1099511627776) (hLn : c.L.length ≤ 1073741824) :
    Calls Try.prog 69 #[.pointer (some ⟨vb, 0, none⟩), .agg cs.toArray, .int .i64 k] w (ImagePost H w (c.image t k)) := by
  have HR := Lib.hid hR
  obtain ⟨a, cap, rfl, -, hn64, hss, hTl⟩ := hR.open_
  obtain ⟨E0, B0, B1, hn⟩ := enter1 t a cap H w hA
  have E0 := Lib.hid E0
  have B0 := Lib.hid B0
  have B1 := Lib.hid B1
  have hn := Lib.hid hn
  have BV := Lib.hid (Below.blk (below_alloc _ zbox) (Below.blk (below_alloc _ (tbox t a cap)) hvb))
  have hz := cell_lt hvb
  obtain ⟨p0, p1, p2, p3, p4, p5, p6, p7, p8⟩ := box4 B0.out
  obtain ⟨q0, q1, q2, q3, q4, q5, q6, q7, q8⟩ := box4 B1.out
  have hidx := Lib.hid (fun u (uc : Value) ub ua uac (hU : Rep H u (tcells u ua uac).toList) W (hW : Agree H W) (hb : W.heap[ub]? = some (tbox u ua uac)) => indexFunc 81 #[.pointer (some ⟨ub, 0, none⟩)] (by intro args w; go_simp) (fun v => v.alike u) H W (.slice la c.L.length lc) c.L hL hW (fun t _ cs' w' hw' hR' => invert_image1 u ua uac ub t cs' H w' hR' hU (Below.blk hw' hb)))
  clear hR hL p5 p6 p7 p8
  have hne : w.heap.size ≠ vb := by omega
  unfold I64 at hn64
  have hpg := Lib.hid (fun (u : Tm) => idx_lt (fun v => v.alike u) c.L 0 (Int.le_refl _))
  have hpm := Lib.hid (fun (u : Tm) => (idx_neg (fun v => v.alike u) c.L 0 (Int.le_refl _)).2)
  cases h3 : (t.k == 3) with
  | true =>
    have h3' : t.k = 3 := beq_iff_eq.1 h3
    by_cases hlt : t.n < k
    · have ho := Lib.hid (show c.image t k = (t, true) by unfold Ic.image; rw [if_pos ⟨h3', hlt⟩])
      have E2 := Lib.hid (((Ext.refl (O := fun _ => False) hA).alloc (tbox t a cap)).alloc (tbox t a cap))
      clear hTl h3'
      go_enter Try.func69, Try.ntmps69
      go_wp2_with fail
      refine bodyPost_ret (v := .tuple #[.agg #[.int .i64 t.k, .string t.s, .int .i64 t.n, .slice a t.l.length cap], .bool true]) (by simp [results, Try.results69, go_sem, q0, q1, q2, q3, q4]) rfl ?_
      rw [ImagePost, ho.out]
      exact ⟨_, rfl, E2.out, HR.out⟩
    · have hw1 := IntWalk.i64_in (t.n - k) (by omega)
      have hY : ∃ Y : Tm, Y = Tm.mk t.k t.s (t.n - k) t.l := ⟨_, rfl⟩
      obtain ⟨Y, hY⟩ := hY
      have hYR : Rep H Y (tcells Y a cap).toList := by
        rw [hY]
        exact Rep.shut HR.out.open_.choose_spec.choose_spec.2.1 (by unfold I64; omega) hss hTl
      have ho := Lib.hid (show c.image t k = if 0 ≤ idx (fun u => u.alike Y) c.L 0 then (leafT 3 (k + c.L.length - 1 - idx (fun u => u.alike Y) c.L 0), true) else (t, false) by
        unfold Ic.image; rw [if_neg (by omega), if_pos h3', ← hY]; simp [h3'])
      have hlen : Y.l.length = t.l.length := by rw [hY]; rfl
      have E2 := Lib.hid (E0.out.alloc (.cells #[.int .i64 t.k, .string t.s, .int .i64 (t.n - k), .slice a t.l.length cap] 30 (0, 0)))
      have B0' := Lib.hid (Below.blk (below_alloc _ (.cells #[.int .i64 t.k, .string t.s, .int .i64 (t.n - k), .slice a t.l.length cap] 30 (0, 0))) B0.out)
      have B1' := Lib.hid (Below.blk (below_alloc _ (.cells #[.int .i64 t.k, .string t.s, .int .i64 (t.n - k), .slice a t.l.length cap] 30 (0, 0))) B1.out)
      have BV' := Lib.hid (Below.blk (below_alloc _ (.cells #[.int .i64 t.k, .string t.s, .int .i64 (t.n - k), .slice a t.l.length cap] 30 (0, 0))) BV.out)
      have BY : (((w.alloc (tbox t a cap)).alloc zbox).alloc (.cells #[.int .i64 t.k, .string t.s, .int .i64 (t.n - k), .slice a t.l.length cap] 30 (0, 0))).heap[w.heap.size + 1 + 1]? = some (tbox Y a cap) := by
        rw [hY]
        exact heap_alloc_at _ _ _ (by simp)
      have hix := Lib.hid (hidx.out Y (.int .i64 0) (w.heap.size + 1 + 1) a cap hYR _ E2.out.agree BY)
      have hg := hpg.out Y
      have hm := hpm.out Y
      generalize idx (fun v => v.alike Y) c.L 0 = P at *
      obtain ⟨v0, v1, v2, v3, v4, v5, v6⟩ := box6 BV'.out
      clear hTl h3' hYR hY hidx hpg hpm BY
      go_enter Try.func69, Try.ntmps69
      go_wp2_with fail
      refine hix.out.mono ?_
      rintro e w3 ⟨rfl, hb3⟩
      have E3 := Lib.hid (E2.out.then_below hb3)
      have B3 := Lib.hid (Below.blk hb3 B0'.out)
      have B4 := Lib.hid (Below.blk hb3 B1'.out)
      have BV3 := Lib.hid (Below.blk hb3 BV'.out)
      obtain ⟨p0, p1, p2, p3, p4, p5, p6, p7, p8⟩ := box4 B3.out
      obtain ⟨q0, q1, q2, q3, q4, q5, q6, q7, q8⟩ := box4 B4.out
      obtain ⟨v0, v1, v2, v3, v4, v5, v6⟩ := box6 BV3.out
      clear hix p5 p6 p7 p8
      by_cases hP : 0 ≤ P
      · have hg' := hg hP
        rw [if_pos hP] at ho
        have hbn := Lib.hid (fun W => invert_bound H W (k + c.L.length - 1 - P) (by unfold I64; omega))
        clear hg
        go_wp2_with fail
        refine (hbn.out _).mono ?_
        rintro e w4 ⟨cs4, rfl, hb4, R4⟩
        have E4 := Lib.hid (E3.out.then_below hb4)
        obtain ⟨q0, q1, q2, q3, q4, q5, q6, q7, q8⟩ := box4 (Below.blk hb4 B4.out)
        have HR4 := Lib.hid R4
        obtain ⟨ya, yc, rfl, -, -, -, -⟩ := R4.open_
        have E5 := Lib.hid (E4.out.store4 hn.out (by omega) (.int .i64 (leafT 3 (k + c.L.length - 1 - P)).k) (.string (leafT 3 (k + c.L.length - 1 - P)).s) (.int .i64 (leafT 3 (k + c.L.length - 1 - P)).n) (.slice ya (leafT 3 (k + c.L.length - 1 - P)).l.length yc))
        generalize hY : leafT 3 (k + c.L.length - 1 - P) = Z at *
        clear hY R4
        go_wp2_with fail
        refine bodyPost_ret (v := .tuple #[.agg #[.int .i64 Z.k, .string Z.s, .int .i64 Z.n, .slice ya Z.l.length yc], .bool true]) (by simp [results, Try.results69, go_sem, q0, q1, q2, q3, q4]) rfl ?_
        rw [ImagePost, ho.out]
        exact ⟨_, rfl, E5.out, HR4.out⟩
      · rw [if_neg hP] at ho
        have h1 : (t.k == 1) = false := by have := beq_iff_eq.1 h3; rw [this]; rfl
        have E5 := Lib.hid (E3.out.store4 hn.out (by omega) (.int .i64 t.k) (.string t.s) (.int .i64 t.n) (.slice a t.l.length cap)).drew
        go_wp2_with fail
        go_region
        go_wp2_with fail
        refine bodyPost_ret (v := .tuple #[.agg #[.int .i64 t.k, .string t.s, .int .i64 t.n, .slice a t.l.length cap], .bool false]) (by simp [results, Try.results69, go_sem, q0, q1, q2, q3, q4]) rfl ?_
        rw [ImagePost, ho.out]
        exact ⟨_, rfl, E5.out, HR.out⟩
  | false =>
    have h3' : ¬ t.k = 3 := beq_eq_false_iff_ne.1 h3
    have ho := Lib.hid (show c.image t k = if 0 ≤ idx (fun u => u.alike t) c.L 0 then (leafT 3 (k + c.L.length - 1 - idx (fun u => u.alike t) c.L 0), true) else (t, (t.k == 1) && decide (t.n ≤ c.lv)) by
      unfold Ic.image; rw [if_neg (by omega), if_neg h3'])
    have E2 := Lib.hid (E0.out.alloc (tbox t a cap))
    have B0' := Lib.hid (Below.blk (below_alloc _ (tbox t a cap)) B0.out)
    have B1' := Lib.hid (Below.blk (below_alloc _ (tbox t a cap)) B1.out)
    have BV' := Lib.hid (Below.blk (below_alloc _ (tbox t a cap)) BV.out)
    have BY : (((w.alloc (tbox t a cap)).alloc zbox).alloc (tbox t a cap)).heap[w.heap.size + 1 + 1]? = some (tbox t a cap) := heap_alloc_at _ _ _ (by simp)
    have hix := Lib.hid (hidx.out t (.int .i64 0) (w.heap.size + 1 + 1) a cap HR.out _ E2.out.agree BY)
    have hg := hpg.out t
    have hm := hpm.out t
    generalize idx (fun v => v.alike t) c.L 0 = P at *
    obtain ⟨v0, v1, v2, v3, v4, v5, v6⟩ := box6 BV'.out
    clear hTl h3' hidx hpg hpm BY
    go_enter Try.func69, Try.ntmps69
    go_wp2_with fail
    refine hix.out.mono ?_
    rintro e w3 ⟨rfl, hb3⟩
    have E3 := Lib.hid (E2.out.then_below hb3)
    have B3 := Lib.hid (Below.blk hb3 B0'.out)
    have B4 := Lib.hid (Below.blk hb3 B1'.out)
    have BV3 := Lib.hid (Below.blk hb3 BV'.out)
    obtain ⟨p0, p1, p2, p3, p4, p5, p6, p7, p8⟩ := box4 B3.out
    obtain ⟨q0, q1, q2, q3, q4, q5, q6, q7, q8⟩ := box4 B4.out
    obtain ⟨v0, v1, v2, v3, v4, v5, v6⟩ := box6 BV3.out
    clear hix p5 p6 p7 p8
    by_cases hP : 0 ≤ P
    · have hg' := hg hP
      rw [if_pos hP] at ho
      have hbn := Lib.hid (fun W => invert_bound H W (k + c.L.length - 1 - P) (by unfold I64; omega))
      clear hg
      go_wp2_with fail
      refine (hbn.out _).mono ?_
      rintro e w4 ⟨cs4, rfl, hb4, R4⟩
      have E4 := Lib.hid (E3.out.then_below hb4)
      obtain ⟨q0, q1, q2, q3, q4, q5, q6, q7, q8⟩ := box4 (Below.blk hb4 B4.out)
      have HR4 := Lib.hid R4
      obtain ⟨ya, yc, rfl, -, -, -, -⟩ := R4.open_
      have E5 := Lib.hid (E4.out.store4 hn.out (by omega) (.int .i64 (leafT 3 (k + c.L.length - 1 - P)).k) (.string (leafT 3 (k + c.L.length - 1 - P)).s) (.int .i64 (leafT 3 (k + c.L.length - 1 - P)).n) (.slice ya (leafT 3 (k + c.L.length - 1 - P)).l.length yc))
      generalize hY : leafT 3 (k + c.L.length - 1 - P) = Z at *
      clear hY R4
      go_wp2_with fail
      refine bodyPost_ret (v := .tuple #[.agg #[.int .i64 Z.k, .string Z.s, .int .i64 Z.n, .slice ya Z.l.length yc], .bool true]) (by simp [results, Try.results69, go_sem, q0, q1, q2, q3, q4]) rfl ?_
      rw [ImagePost, ho.out]
      exact ⟨_, rfl, E5.out, HR4.out⟩
    · rw [if_neg hP] at ho
      have E5 := Lib.hid (E3.out.store4 hn.out (by omega) (.int .i64 t.k) (.string t.s) (.int .i64 t.n) (.slice a t.l.length cap)).drew
      cases h1 : (t.k == 1) with
      | false =>
        rw [h1] at ho
        go_wp2_with fail
        go_region
        go_wp2_with fail
        refine bodyPost_ret (v := .tuple #[.agg #[.int .i64 t.k, .string t.s, .int .i64 t.n, .slice a t.l.length cap], .bool false]) (by simp [results, Try.results69, go_sem, q0, q1, q2, q3, q4]) rfl ?_
        rw [ImagePost, ho.out]
        exact ⟨_, rfl, E5.out, HR.out⟩
      | true =>
        rw [h1] at ho
        by_cases hle : t.n ≤ c.lv
        · rw [decide_eq_true hle] at ho
          go_wp2_with fail
          go_region
          go_wp2_with fail
          refine bodyPost_ret (v := .tuple #[.agg #[.int .i64 t.k, .string t.s, .int .i64 t.n, .slice a t.l.length cap], .bool true]) (by simp [results, Try.results69, go_sem, q0, q1, q2, q3, q4]) rfl ?_
          rw [ImagePost, ho.out]
          exact ⟨_, rfl, E5.out, HR.out⟩
        · rw [decide_eq_false hle] at ho
          go_wp2_with fail
          go_region
          go_wp2_with fail
          refine bodyPost_ret (v := .tuple #[.agg #[.int .i64 t.k, .string t.s, .int .i64 t.n, .slice a t.l.length cap], .bool false]) (by simp [results, Try.results69, go_sem, q0, q1, q2, q3, q4]; omega) rfl ?_
          rw [ImagePost, ho.out]
          exact ⟨_, rfl, E5.out, HR.out⟩
end Go.Proofs.Ytbdappbmlnpogaa
namespace Go.Proofs.Ytbdappbmlnpogaa
open Go Go.RowKit
set_option maxRecDepth 100000
namespace St
theorem headF_le (S : St) : ∀ (m : Nat) (t : Tm) (f : Int), (headF S m t f).2.2 ≤ f ∧ (0 ≤ f → f.toNat ≤ m → 0 ≤ (headF S m t f).2.2) := by
  intro m
  induction m with
  | zero => intro t f; rw [headF]; split <;> exact ⟨Int.le_refl _, fun h _ => h⟩
  | succ m ih =>
    intro t f
    rw [headF]
    split
    · exact ⟨Int.le_refl _, fun h _ => h⟩
    · split
      · exact ⟨Int.le_refl _, fun h _ => h⟩
      · rename_i h
        have h1 : 0 < f := by
          by_cases h2 : f ≤ 0
          · exact absurd (Or.inr h2) h
          · omega
        have := ih (S.step t).1 (f - 1)
        exact ⟨by omega, fun _ h3 => this.2 (by omega) (by omega)⟩
theorem head_le (S : St) (t : Tm) (f : Int) : (S.head t f).2.2 ≤ f ∧ (0 ≤ f → 0 ≤ (S.head t f).2.2) := by
  have := headF_le S f.toNat t f
  exact ⟨this.1, fun h => this.2 h (Nat.le_refl _)⟩
/-- Fuel is spent, never made. -/
def Spends (g : Tm → Int → Tm × Int × Int) : Prop := ∀ t f, 0 ≤ f → (g t f).2.1 = 0 → 0 ≤ (g t f).2.2 ∧ (g t f).2.2 ≤ f
theorem mapF_spends {g : Tm → Int → Tm × Int × Int} (hg : Spends g) : ∀ (l acc : List Tm) (f : Int), 0 ≤ f → (mapF g acc l f).2.1 = 0 → 0 ≤ (mapF g acc l f).2.2 ∧ (mapF g acc l f).2.2 ≤ f := by
  intro l
  induction l with
  | nil => intro acc f hf _; rw [mapF]; exact ⟨hf, Int.le_refl _⟩
  | cons t ts ih =>
    intro acc f hf h
    rw [mapF] at h ⊢
    split at h
    · rename_i h1; exact absurd h h1
    · rename_i h1
      rw [if_neg h1]
      have h1 : (g t f).2.1 = 0 := by simpa using h1
      have h2 := hg t f hf h1
      have h3 := ih _ _ h2.1 h
      exact ⟨h3.1, by omega⟩
theorem fullF_spends (S : St) : ∀ (m : Nat) (t : Tm) (f : Int), (fullF S m t f).2.1 = 0 → 0 ≤ (fullF S m t f).2.2 ∧ (fullF S m t f).2.2 ≤ f - 1 := by
  intro m
  induction m with
  | zero => intro t f h; rw [fullF] at h; simp at h
  | succ m ih =>
    intro t f h
    rw [fullF] at h ⊢
    split at h
    · simp at h
    · rename_i h0
      rw [if_neg h0]
      split at h
      · rename_i h1; exact absurd h h1
      · rename_i h1
        rw [if_neg h1]
        split at h
        · rename_i h2; exact absurd h h2
        · rename_i h2
          rw [if_neg h2]
          have h2 : (kidsF (fullF S m) (S.head t (f - 1)).1 (S.head t (f - 1)).2.2).2.1 = 0 := by simpa using h2
          have hh := head_le S t (f - 1)
          have hs : Spends (fullF S m) := fun t f _ h => ⟨(ih t f h).1, by have := (ih t f h).2; omega⟩
          have hk : 0 ≤ (kidsF (fullF S m) (S.head t (f - 1)).1 (S.head t (f - 1)).2.2).2.2 ∧ (kidsF (fullF S m) (S.head t (f - 1)).1 (S.head t (f - 1)).2.2).2.2 ≤ (S.head t (f - 1)).2.2 := by
            unfold kidsF at h2 ⊢
            split at h2
            · rename_i h6; rw [if_pos h6]; exact mapF_spends hs _ _ _ (hh.2 (by omega)) h2
            · rename_i h6; rw [if_neg h6]; exact mapF_spends hs _ _ _ (hh.2 (by omega)) h2
          exact ⟨hk.1, by have := hk.2; have := hh.1; dsimp only; omega⟩
theorem Full_spends (S : St) (t : Tm) (f : Int) (h : (S.Full t f).2.2 = 0) : 0 ≤ (S.Full t f).2.1 ∧ (S.Full t f).2.1 ≤ f - 1 := by
  unfold Full at h ⊢
  split at h
  · rename_i h1; exact absurd h h1
  · rename_i h1
    rw [if_neg h1]
    unfold runV at h1 ⊢
    split at h1
    · simp at h1
    · rename_i h2
      rw [if_neg h2]
      split at h1
      · rename_i h3; exact absurd h3 h1
      · rename_i h3
        rw [if_neg h3]
        exact fullF_spends S f.toNat t f (by simpa [full] using h3)
theorem argsL_fuel (S : St) (lv : Int) : ∀ (l out : List Tm) (f : Int), 0 ≤ f ∨ l ≠ [] → (S.argsL lv out l f).2.2 = 0 → (S.argsL lv out l f).1.length = out.length + l.length ∧ 0 ≤ (S.argsL lv out l f).2.1 ∧ (S.argsL lv out l f).2.1 + l.length ≤ f := by
  intro l
  induction l with
  | nil => intro out f hf _; rw [argsL]; simp at hf ⊢; exact hf
  | cons t ts ih =>
    intro out f hf h
    rw [argsL] at h ⊢
    split at h
    · rename_i h1; exact absurd h h1
    · rename_i h1
      rw [if_neg h1]
      split at h
      · simp at h
      · rename_i h2
        rw [if_neg h2]
        have hs := Full_spends S t f (by simpa using h1)
        have := ih (out ++ [(S.Full t f).1.leafV.1]) (S.Full t f).2.1 (.inl hs.1) h
        simp only [List.length_append, List.length_cons, List.length_nil] at this ⊢
        push_cast at this ⊢
        omega
theorem args_fuel (S : St) (x : Int) (l : List Tm) (f : Int) (hf : 0 ≤ f) (h : (S.args x l f).2.2 = 0) : (S.args x l f).1.length = l.length ∧ 0 ≤ (S.args x l f).2.1 ∧ (S.args x l f).2.1 + l.length ≤ f := by
  unfold args at h ⊢
  split at h
  · simp at h
  · rename_i h1
    rw [if_neg h1]
    simpa using argsL_fuel S _ l [] f (.inl hf) h
theorem args_known (S : St) (x : Int) (l : List Tm) (f : Int) (h : (S.args x l f).2.2 = 0) : (S.info x).2 = true := by
  unfold args at h
  split at h
  · simp at h
  · rename_i h1
    cases hx : (S.info x).2 with
    | false => exact absurd (.inl hx) h1
    | true => rfl
end St
namespace Ic
theorem flexA_append (c : Ic) (k n : Int) (a b : List Tm) : ∀ i, flexA c k n (a ++ b) i = ((flexA c k n a i).1 ++ (flexA c k n b (i + a.length)).1, (flexA c k n a i).2 ++ (flexA c k n b (i + a.length)).2) := by
  induction a with
  | nil => intro i; simp [flexA]
  | cons x xs ih =>
    intro i
    rw [List.cons_append, flexA, flexA]
    have e : i + ((x :: xs).length : Int) = i + 1 + xs.length := by simp; omega
    rw [e]
    split
    · rw [ih]; rfl
    · rw [ih]
theorem flexB_append (c : Ic) (k lv : Int) (a b : List Tm) : ∀ i, flexB c k lv (a ++ b) i = ((flexB c k lv a i).1 ++ (flexB c k lv b (i + a.length)).1, (flexB c k lv a i).2 ++ (flexB c k lv b (i + a.length)).2) := by
  induction a with
  | nil => intro i; simp [flexB]
  | cons x xs ih =>
    intro i
    rw [List.cons_append, flexB, flexB]
    have e : i + ((x :: xs).length : Int) = i + 1 + xs.length := by simp; omega
    rw [e]
    split
    · rw [ih]; rfl
    · rw [ih]
theorem flexA_take (c : Ic) (k n : Int) (l : List Tm) (j : Nat) (t : Tm) (h : l[j]? = some t) : flexA c k n (l.take (j + 1)) 0 =
    if (c.image t k).2 then ((flexA c k n (l.take j) 0).1 ++ [leafT 3 (n - 1 - j)], (flexA c k n (l.take j) 0).2 ++ [(c.image t k).1]) else flexA c k n (l.take j) 0 := by
  have hj := (List.getElem?_eq_some_iff.1 h).1
  rw [List.take_add_one, h, flexA_append]
  have : ((l.take j).length : Int) = j := by rw [List.length_take]; omega
  rw [this, Option.toList_some, flexA, flexA]
  split <;> simp
theorem flexB_take (c : Ic) (k lv : Int) (l : List Tm) (j : Nat) (t : Tm) (h : l[j]? = some t) : flexB c k lv (l.take (j + 1)) 0 =
    if c.lv < lv ∧ t.k = 1 ∧ t.n ≤ lv then ((flexB c k lv (l.take j) 0).1 ++ [t], (flexB c k lv (l.take j) 0).2 ++ [leafT 3 (k + c.L.length - 1 - j)]) else flexB c k lv (l.take j) 0 := by
  have hj := (List.getElem?_eq_some_iff.1 h).1
  rw [List.take_add_one, h, flexB_append]
  have : ((l.take j).length : Int) = j := by rw [List.length_take]; omega
  rw [this, Option.toList_some, flexB, flexB]
  split <;> simp
theorem flexA_len (c : Ic) (k n : Int) (l : List Tm) : ∀ i, (flexA c k n l i).1.length ≤ l.length ∧ (flexA c k n l i).2.length = (flexA c k n l i).1.length ∧ Tm.sizeL (flexA c k n l i).1 ≤ l.length := by
  induction l with
  | nil => intro i; simp [flexA]
  | cons x xs ih =>
    intro i
    have := ih (i + 1)
    rw [flexA]
    split
    · have h1 := size_leafT 3 (n - 1 - i)
      simp only [List.length_cons, Tm.sizeL_cons]; omega
    · simp only [List.length_cons]; omega
theorem isLeaf_size {t : Tm} (h : t.isLeaf = true) : t.size = 1 := by
  unfold Tm.isLeaf at h
  cases t with
  | mk k s n l =>
    simp only [Bool.and_eq_true, Bool.or_eq_true, beq_iff_eq, Tm.k_mk] at h
    have := Tm.ok1_leaf ((Tm.valid_iff ..).1 h.1).1 (by omega) (by omega)
    subst this
    rw [Tm.size_mk]; simp
theorem flexB_len (c : Ic) (k lv : Int) (l : List Tm) (hl : ∀ u ∈ l, u.isLeaf = true) : ∀ i, (flexB c k lv l i).1.length ≤ l.length ∧ (flexB c k lv l i).2.length = (flexB c k lv l i).1.length ∧ Tm.sizeL (flexB c k lv l i).1 ≤ l.length := by
  induction l with
  | nil => intro i; simp [flexB]
  | cons x xs ih =>
    intro i
    have := ih (fun u hu => hl u (by simp [hu])) (i + 1)
    rw [flexB]
    split
    · have h1 := isLeaf_size (hl x (by simp))
      simp only [List.length_cons, Tm.sizeL_cons]; omega
    · simp only [List.length_cons]; omega
end Ic
end Go.Proofs.Ytbdappbmlnpogaa
namespace Go.Proofs.Ytbdappbmlnpogaa
open Go Go.RowKit
set_option maxRecDepth 100000
theorem Own.sub {α : Type} {H H' : GH} {w : World} {base : Nat} {e : TypeId} {sz : Nat} {P P' : α → List Value → Prop} {v : Value} {xs : List α} (h : Own H w base e sz P v xs) (hf : ∀ g, v.ownBlock = some g → H' g = none) (hp : ∀ x cs, P x cs → P' x cs) : Own H' w base e sz P' v xs := by
  obtain ⟨C, hr, _, hq⟩ := h
  exact ⟨C, hr, hf, fun i x hi => hp x _ (hq i x hi)⟩
/-- append(v, y), y's cells in a box: at a step of a region that draws its order. -/
theorem step_own1 {α : Type} {PR : Program} {H : GH} {w : World} {base : Nat} {t e : TypeId} {sz bytes : Nat} {P : α → List Value → Prop} {xs : List α} {ops : Array Oper} {o : Oper} {a : Act} {K : Act → World → Prop} {Q : Exit → Act → World → Prop} {E : Prop} (hgd : o.guard = none) (s x : Operand)
    (ho : o.op = .call { callee := .builtin .append, args := #[s, x], argTypes := #[t, t] }) (hT : IsSl PR t e sz bytes) (v : Value) (hs : a.eval s = v) (g c : Nat) (hx : a.eval x = .slice (some ⟨g, 0, none⟩) 1 c)
    (own : Own H w base e sz P v xs) (hA : Agree H w) (hb : base ≤ w.heap.size) (cells : Array Value) (hbox : w.heap[g]? = some (.cells cells e (0, 0))) (y : α) (hP : P y cells.toList) (hcs : cells.size = sz) (hone : ∀ u ∈ cells.toList, u.oneCell' = true)
    (h63 : xs.length + 1 ≤ maxLen) (hby : (xs.length + 1) * bytes ≤ 140737488355328)
    (h : ∀ v' w', Own H w' base e sz P v' (xs ++ [y]) → w.grownBy w' v.ownBlock → (v'.ownBlock = v.ownBlock ∨ v'.ownBlock = some w.heap.size) → K (a.put o.dst v') w') :
    if Region.wanted o (yielded ops a.tmps) = true then Oper.wp PR o a w K Q else E := by
  have hw : Region.wanted o (yielded ops a.tmps) = true := by simp [Region.wanted, hgd]
  rw [if_pos hw]
  obtain ⟨i, z, h1, h2, h3, h4, h5, h6, h7⟩ := hT
  obtain ⟨C, hown, hf, hq⟩ := own
  have hnews : ∀ j u, cells.toList[j]? = some u → w.cell? ((⟨g, 0, none⟩ : Addr).add j) = some u := fun j u hu => by
    rw [Addr.add_lit, Nat.zero_add, cell_of_row w g j cells e (0, 0) hbox]
    simpa using hu
  obtain ⟨v', w', hrun, h8, h9, _, h10⟩ := run_append_own_at (P := PR) w base t o.type e i z sz bytes h1 h2 h3 h4 h5 h6 h7 v xs.length C hown ⟨g, 0, none⟩ 1 c cells.toList (by simpa using hcs) hnews hone h63 hby hb
  unfold Oper.wp execOp
  simp only [ho, resolve, invoke, builtin, Sem.run_bind, Sem.run_pure, Result.andThen_ok, List.map_toArray, List.map_cons, List.map_nil, hs, hx, hrun]
  refine h v' w' ⟨_, by rw [List.length_append]; exact h8, fun g' hg => ?_, fun i x hi => ?_⟩ h9 h10
  · rcases h10 with h10 | h10
    · rw [h10] at hg; exact hf g' hg
    · rw [h10] at hg; injection hg with hg; subst hg; exact hA.free (Nat.le_refl _)
  · by_cases hlt : i < xs.length
    · rw [flat_elem hown.1 i hlt]
      rw [List.getElem?_append_left hlt] at hi
      exact hq i x hi
    · have hix : i = xs.length + 0 := by
        have := (List.getElem?_eq_some_iff.1 hi).1
        simp at this
        omega
      subst hix
      rw [List.getElem?_append_right (by omega), Nat.add_sub_cancel_left] at hi
      simp at hi
      subst hi
      rw [flat_new hown.1]
      have : cells.toList.length = sz := by simpa using hcs
      simp only [Nat.zero_mul, List.drop_zero]
      rw [← this, List.take_length]
      exact hP
/-- Two rows of the call's own, and a box. -/
structure FI (H : GH) (w : World) (ub : Nat) (u : Tm) (ua : Option Addr) (uc : Nat) (va : Value) (on : List Tm) (vb : Value) (im : List Tm) (W : World) : Prop where
  ext : Pure H w H W
  a : Own H W w.heap.size 30 4 (Rep H) va on
  b : Own H W w.heap.size 30 4 (Rep H) vb im
  ne : ∀ g, va.ownBlock = some g → vb.ownBlock ≠ some g
  box : W.heap[ub]? = some (tbox u ua uc)
  na : va.ownBlock ≠ some ub
  nb : vb.ownBlock ≠ some ub
section
variable {H : GH} {w : World} {ub : Nat} {u : Tm} {ua : Option Addr} {uc : Nat} {va vb : Value} {on im : List Tm} {W W' : World}
theorem FI.below (h : FI H w ub u ua uc va on vb im W) (hb : Below W.heap.size W W') : FI H w ub u ua uc va on vb im W' :=
  ⟨h.ext.then_below hb, h.a.below hb, h.b.below hb, h.ne, Below.blk hb h.box, h.na, h.nb⟩
theorem FI.alloc (h : FI H w ub u ua uc va on vb im W) (o : Obj) : FI H w ub u ua uc va on vb im (W.alloc o) := h.below (below_alloc W o)
theorem FI.drew (h : FI H w ub u ua uc va on vb im W) : FI H w ub u ua uc va on vb im W.drew := h.below (Below.refl _ _).drew
theorem FI.app1 (h : FI H w ub u ua uc va on vb im W) {va' : Value} {y : Tm} (own : Own H W' w.heap.size 30 4 (Rep H) va' (on ++ [y])) (hg : W.grownBy W' va.ownBlock) (hb : va'.ownBlock = va.ownBlock ∨ va'.ownBlock = some W.heap.size) : FI H w ub u ua uc va' (on ++ [y]) vb im W' := by
  refine ⟨h.ext.grown hg h.a.free (fun g hg' hlt => absurd hlt (Nat.not_lt.2 (h.a.lt g hg').1)), own, h.b.grown hg (fun g hg' e => h.ne _ e hg'), fun g hg' e => ?_, (hg.block ub (cell_lt h.box) (fun e => h.na e.symm)).trans h.box, fun e => ?_, h.nb⟩
  · rcases hb with hb | hb
    · exact h.ne g (hb ▸ hg') e
    · rw [hb] at hg'; injection hg' with hg'; have := (h.b.lt g e).2; omega
  · rcases hb with hb | hb
    · exact h.na (hb ▸ e)
    · rw [hb] at e; injection e with e; have := cell_lt h.box; omega
theorem FI.app2 (h : FI H w ub u ua uc va on vb im W) {vb' : Value} {y : Tm} (own : Own H W' w.heap.size 30 4 (Rep H) vb' (im ++ [y])) (hg : W.grownBy W' vb.ownBlock) (hb : vb'.ownBlock = vb.ownBlock ∨ vb'.ownBlock = some W.heap.size) : FI H w ub u ua uc va on vb' (im ++ [y]) W' := by
  refine ⟨h.ext.grown hg h.b.free (fun g hg' hlt => absurd hlt (Nat.not_lt.2 (h.b.lt g hg').1)), h.a.grown hg (fun g hg' e => h.ne _ hg' e), own, fun g hg' e => ?_, (hg.block ub (cell_lt h.box) (fun e => h.nb e.symm)).trans h.box, h.na, fun e => ?_⟩
  · rcases hb with hb | hb
    · exact h.ne g hg' (hb ▸ e)
    · rw [hb] at e; injection e with e; have := (h.a.lt g hg').2; omega
  · rcases hb with hb | hb
    · exact h.nb (hb ▸ e)
    · rw [hb] at e; injection e with e; have := cell_lt h.box; omega
theorem FI.cells (h : FI H w ub u ua uc va on vb im W) : W.cell? ⟨ub, 0, none⟩ = some (.int .i64 u.k) ∧ W.cell? ⟨ub, 1, none⟩ = some (.string u.s) ∧ W.cell? ⟨ub, 2, none⟩ = some (.int .i64 u.n) ∧ W.cell? ⟨ub, 3, none⟩ = some (.slice ua u.l.length uc) :=
  ⟨(box4 h.box).2.1, (box4 h.box).2.2.1, (box4 h.box).2.2.2.1, (box4 h.box).2.2.2.2.1⟩
theorem FI.cells5 (h : FI H w ub u ua uc va on vb im W) {b s : Nat} {c : Ic} {la : Option Addr} {lc : Nat} {f e : Int} (hb : w.heap[b]? = some (ivbox s c la lc f e)) : W.cell? ⟨ub, 0, none⟩ = some (.int .i64 u.k) ∧ W.cell? ⟨ub, 1, none⟩ = some (.string u.s) ∧ W.cell? ⟨ub, 2, none⟩ = some (.int .i64 u.n) ∧ W.cell? ⟨ub, 3, none⟩ = some (.slice ua u.l.length uc) ∧ W.cell? ⟨b, 3, none⟩ = some (.slice la c.L.length lc) :=
  ⟨h.cells.1, h.cells.2.1, h.cells.2.2.1, h.cells.2.2.2, (box6 (Below.blk h.ext.below hb)).2.2.2.2.1⟩
/-- Another box is kept. -/
theorem grown_blk {row : Option Nat} (hg : W.grownBy W' row) {b : Nat} {o : Obj} (h : W.heap[b]? = some o) (hb : row ≠ some b) : W'.heap[b]? = some o :=
  (hg.block b (Array.getElem?_eq_some_iff.1 h).1 (fun e => hb e.symm)).trans h
end
/-- Both rows join what never changes. -/
theorem freeze_two {H : GH} {w W : World} {va vb : Value} {on im : List Tm} (hx : Pure H w H W) (a : Own H W w.heap.size 30 4 (Rep H) va on) (b : Own H W w.heap.size 30 4 (Rep H) vb im) (ne : ∀ g, va.ownBlock = some g → vb.ownBlock ≠ some g) :
    ∃ H', Pure H w H' W ∧ Tms H' va on ∧ Tms H' vb im := by
  obtain ⟨H1, s1, a1, l1, o1, t1⟩ := a.freeze hx.agree (fun _ _ h => h.len)
  have b1 : Own H1 W w.heap.size 30 4 (Rep H1) vb im := b.sub (fun g hg => (o1 g (fun e => ne g e hg)).trans (b.free g hg)) (fun _ _ h => h.mono s1)
  obtain ⟨H2, s2, a2, l2, o2, t2⟩ := b1.freeze a1 (fun _ _ h => h.len)
  exact ⟨H2, ⟨s1.trans s2, a2, hx.os, hx.tape, hx.output, hx.size, hx.block, fun k hk => (l2 k hk).trans (l1 k hk)⟩, Sl.mono s2 (fun _ _ _ h => Rep.mono (s1.trans s2) h) t1, Sl.mono (Sub.refl _) (fun _ _ _ h => Rep.mono s2 h) t2⟩
theorem iv04 {W : World} {vb s : Nat} {c : Ic} {la : Option Addr} {lc : Nat} {f e : Int} (h : W.heap[vb]? = some (ivbox s c la lc f e)) : W.cell? ⟨vb, 0, none⟩ = some (.pointer (some ⟨s, 0, none⟩)) ∧ W.cell? ⟨vb, 4, none⟩ = some (.int .i64 f) :=
  ⟨(box6 h).2.1, (box6 h).2.2.2.2.2.1⟩
theorem iv3 {W : World} {vb s : Nat} {c : Ic} {la : Option Addr} {lc : Nat} {f e : Int} (h : W.heap[vb]? = some (ivbox s c la lc f e)) : W.cell? ⟨vb, 3, none⟩ = some (.slice la c.L.length lc) := (box6 h).2.2.2.2.1
theorem iv02 {W : World} {vb s : Nat} {c : Ic} {la : Option Addr} {lc : Nat} {f e : Int} (h : W.heap[vb]? = some (ivbox s c la lc f e)) : W.cell? ⟨vb, 0, none⟩ = some (.pointer (some ⟨s, 0, none⟩)) ∧ W.cell? ⟨vb, 2, none⟩ = some (.int .i64 c.lv) :=
  ⟨(box6 h).2.1, (box6 h).2.2.2.1⟩
def FlexRel (H : GH) (w : World) (A : Nat → List Tm × List Tm) (N : Nat) (va vb i : Value) (wr : World) : Prop :=
  ∃ (j : Nat), j ≤ N ∧ i = .int .i64 j ∧ Pure H w H wr ∧ Own H wr w.heap.size 30 4 (Rep H) va (A j).1 ∧ Own H wr w.heap.size 30 4 (Rep H) vb (A j).2 ∧ ∀ g, va.ownBlock = some g → vb.ownBlock ≠ some g
def FlexPost (F : Nat → Prop) (vb s : Nat) (c : Ic) (la : Option Addr) (lc : Nat) (H : GH) (w : World) (r : Tm × Iv) (e : Ending) (w' : World) : Prop :=
  ∃ H' cs', e = .returned (.agg cs'.toArray) ∧ Ext (fun k => k = vb ∨ F k) H w H' w' ∧ Rep H' r.1 cs' ∧ w'.heap[vb]? = some (ivbox s c la lc r.2.f r.2.e) ∧ StAt H' w' (fun k => F k ∨ w.heap.size ≤ k) s r.2.S
theorem apply_leaf_len (k n : Int) (hk : k ≠ 6) (l : List Tm) : ((leafT k n).apply l).l.length ≤ l.length + 1 := by
  unfold Tm.apply
  split
  · unfold leafT; simp
  · split
    · rename_i h; exact absurd h.1 hk
    · simp
theorem flexB_lens (c : Ic) (k lv : Int) (l : List Tm) (hl : ∀ u ∈ l, u.isLeaf = true) (j : Nat) : (Ic.flexB c k lv (l.take j) 0).1.length ≤ l.length ∧ (Ic.flexB c k lv (l.take j) 0).2.length ≤ l.length := by
  have := Ic.flexB_len c k lv (l.take j) (fun u hu => hl u (List.mem_of_mem_take hu)) 0
  rw [List.length_take] at this
  omega
theorem iv_far {W : World} {vb ib b : Nat} {x0 x2 y0 : Value} (h : W.cell? ⟨vb, 0, none⟩ = some x0 ∧ W.cell? ⟨vb, 2, none⟩ = some x2 ∧ W.cell? ⟨ib, 0, none⟩ = some y0) (h1 : vb ≠ b) (h2 : ib ≠ b) (u0 u1 u2 u3 : Value) :
    ((((W.setCell ⟨b, 0, none⟩ u0).setCell ⟨b, 1, none⟩ u1).setCell ⟨b, 2, none⟩ u2).setCell ⟨b, 3, none⟩ u3).cell? ⟨vb, 0, none⟩ = some x0 ∧ ((((W.setCell ⟨b, 0, none⟩ u0).setCell ⟨b, 1, none⟩ u1).setCell ⟨b, 2, none⟩ u2).setCell ⟨b, 3, none⟩ u3).cell? ⟨vb, 2, none⟩ = some x2 ∧ ((((W.setCell ⟨b, 0, none⟩ u0).setCell ⟨b, 1, none⟩ u1).setCell ⟨b, 2, none⟩ u2).setCell ⟨b, 3, none⟩ u3).cell? ⟨ib, 0, none⟩ = some y0 := by
  have e : ∀ k o, k ≠ b → ((((W.setCell ⟨b, 0, none⟩ u0).setCell ⟨b, 1, none⟩ u1).setCell ⟨b, 2, none⟩ u2).setCell ⟨b, 3, none⟩ u3).cell? ⟨k, o, none⟩ = W.cell? ⟨k, o, none⟩ := fun k o hk => by
    unfold World.cell?
    rw [blk_far4 _ _ _ _ hk]
  rw [e _ _ h1, e _ _ h1, e _ _ h2]
  exact h
theorem flex_fin {F G : Nat → Prop} {vb s : Nat} {c : Ic} {la : Option Addr} {lc : Nat} {H H7 : GH} {w w7 : World} {Y : Tm} {ya : Option Addr} {yc : Nat} {S' : St} {f e : Int} {r : Tm × Iv} (hne : w.heap.size ≠ vb) (E : Ext (fun k => k = vb ∨ F k) H w H7 w7) (hB : w7.heap[w.heap.size]? = some zbox) (n7 : H7 w.heap.size = none)
    (BV : w7.heap[vb]? = some (ivbox s c la lc f e)) (hS : StAt H7 w7 G s S') (hG : ¬ G w.heap.size) (hGF : ∀ k, G k → F k ∨ w.heap.size ≤ k) (hR : Rep H7 Y (tcells Y ya yc).toList) (hr : r = (Y, ⟨S', f, e⟩)) :
    FlexPost F vb s c la lc H w r (.returned (.agg #[.int .i64 Y.k, .string Y.s, .int .i64 Y.n, .slice ya Y.l.length yc])) ((((w7.setCell ⟨w.heap.size, 0, none⟩ (.int .i64 Y.k)).setCell ⟨w.heap.size, 1, none⟩ (.string Y.s)).setCell ⟨w.heap.size, 2, none⟩ (.int .i64 Y.n)).setCell ⟨w.heap.size, 3, none⟩ (.slice ya Y.l.length yc)) := by
  subst hr
  have T : Ext (fun k => k = w.heap.size) H7 w7 H7 ((((w7.setCell ⟨w.heap.size, 0, none⟩ (.int .i64 Y.k)).setCell ⟨w.heap.size, 1, none⟩ (.string Y.s)).setCell ⟨w.heap.size, 2, none⟩ (.int .i64 Y.n)).setCell ⟨w.heap.size, 3, none⟩ (.slice ya Y.l.length yc)) :=
    ((((Ext.refl (O := fun k => k = w.heap.size) E.agree).setCell (p := ⟨w.heap.size, 0, none⟩) n7 (fun _ => rfl) _).setCell (p := ⟨w.heap.size, 1, none⟩) n7 (fun _ => rfl) _).setCell (p := ⟨w.heap.size, 2, none⟩) n7 (fun _ => rfl) _).setCell (p := ⟨w.heap.size, 3, none⟩) n7 (fun _ => rfl) _
  exact ⟨H7, _, rfl, E.store4 n7 (Nat.le_refl _) _ _ _ _, hR, (T.block vb (cell_lt BV) (fun h => hne h.symm)).trans BV, (hS.ext T (fun k hk hF => by subst hk; exact hG hF)).mono hGF⟩
end Go.Proofs.Ytbdappbmlnpogaa
