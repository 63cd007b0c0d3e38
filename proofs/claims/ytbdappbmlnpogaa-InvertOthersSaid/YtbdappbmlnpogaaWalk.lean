/- term.walk: a term with other leaves. -/
import Derived.Test.YtbdappbmlnpogaaTerm
import Derived.StillTailTactics
namespace Go.Proofs.Ytbdappbmlnpogaa
open Go Go.Proofs Go.RowKit
set_option maxRecDepth 100000
/-! ### walk -/
/-- A term's own list isn't empty where it is an application; so of all in it. -/
def Tm.hd6 (t : Tm) : Prop := t.k = 6 → t.l ≠ []
mutual
def Tm.shp : Tm → Bool | .mk k _ _ l => (!(k == 6) || !l.isEmpty) && Tm.shpL l
def Tm.shpL : List Tm → Bool | [] => true | t :: ts => t.shp && Tm.shpL ts
end
theorem Tm.shp_mk (k s n l) : (Tm.mk k s n l).shp = ((!(k == 6) || !l.isEmpty) && Tm.shpL l) := by rw [Tm.shp]
theorem Tm.shpL_iff (l : List Tm) : Tm.shpL l = true ↔ ∀ t ∈ l, t.shp = true := by
  induction l with
  | nil => rw [Tm.shpL]; simp
  | cons x xs ih => rw [Tm.shpL]; simp [ih]
theorem Tm.shp_hd6 {t : Tm} (h : t.shp = true) : t.hd6 := by
  cases t with
  | mk k s n l =>
    rw [Tm.shp_mk] at h
    intro hk hl
    simp only [Tm.k_mk, Tm.l_mk] at hk hl
    subst hk; subst hl
    simp at h
theorem Tm.shp_of_valid (t : Tm) (h : t.valid = true) : t.shp = true := by
  induction t using Tm.ind with
  | h k s n l ih =>
    rw [Tm.valid_mk, Bool.and_eq_true, Tm.validL_iff] at h
    rw [Tm.shp_mk, Bool.and_eq_true, Tm.shpL_iff]
    refine ⟨?_, fun t ht => ih t ht (h.2 t ht)⟩
    by_cases hk : k = 6
    · subst hk
      have h1 := h.1
      rw [Tm.ok1, if_neg (by decide), if_neg (by decide), if_neg (by decide), if_neg (by decide), if_neg (by decide), if_pos rfl] at h1
      cases l with
      | nil => simp at h1
      | cons x xs => simp
    · simp [hk]
theorem Tm.apply_hd6 (f : Tm) (args : List Tm) (h : f.hd6) : (f.apply args).hd6 := by
  unfold Tm.apply
  split
  · exact h
  · split
    · rename_i h1 h2
      intro _ hl
      simp only [Tm.l_mk, List.append_eq_nil_iff] at hl
      exact h2.2 hl.1
    · intro _ hl
      simp at hl
theorem Tm.apply_size (f : Tm) (args : List Tm) : (f.apply args).size ≤ f.size + Tm.sizeL args + 1 ∧ Tm.sizeL args ≤ (f.apply args).size ∧ f.size ≤ (f.apply args).size := by
  unfold Tm.apply
  split
  · rename_i h; subst h; simp
  · split
    · cases f with
      | mk k s n l => simp only [Tm.size_mk, Tm.l_mk, Tm.sizeL_append]; omega
    · simp only [Tm.size_mk, Tm.sizeL_cons]; omega
theorem Tm.remake_hd6 (k s n) (l out : List Tm) (h : k = 6 → out ≠ []) (ho : (out.getD 0 Tm.zero).hd6) : (Tm.remake k s n l out).hd6 := by
  unfold Tm.remake
  split
  · exact Tm.apply_hd6 _ _ ho
  · intro hk; exact h hk
theorem Tm.remake_size (k s n) (l out : List Tm) : Tm.sizeL out ≤ (Tm.remake k s n l out).size := by
  unfold Tm.remake
  split
  · rename_i h
    cases out with
    | nil => simp
    | cons x xs =>
      simp only [List.getD_cons_zero, List.drop_succ_cons, List.drop_zero, Tm.sizeL_cons]
      have hk : x.k = 6 := by simpa using h.2.2.1
      have hne : xs ≠ [] := by rintro rfl; simp at h
      unfold Tm.apply
      rw [if_neg hne]
      split
      · cases x with
        | mk k s n l => simp only [Tm.size_mk, Tm.l_mk, Tm.sizeL_append]; omega
      · simp only [Tm.size_mk, Tm.sizeL_cons]; omega
  · rw [Tm.size_mk]; omega

/-- What the leaves' function of a walk comes to, at the leaves of which L speaks. -/
def LeafOK (g : FuncId) (caps : Array Value) (f : Tm → Int → Tm) (H0 : GH) (L : Tm → Int → Prop) : Prop :=
  ∀ u d, L u d → (f u d).hd6 ∧ (f u d).size ≤ LB ∧ ∀ cs H w, Sub H0 H → Agree H w → Rep H u cs →
    Calls Try.prog g (#[.agg cs.toArray, .int .i64 d] ++ caps) w fun e w' => ∃ H' cs', e = .returned (.agg cs'.toArray) ∧ Pure H w H' w' ∧ Rep H' (f u d) cs'
theorem walk_hd6 (f : Tm → Int → Tm) (t : Tm) (d : Int) (hs : t.shp = true) (hl : ∀ p ∈ t.leaves d, (f p.1 p.2).hd6) : (t.walk f d).hd6 := by
  induction t using Tm.ind generalizing d with
  | h k s n l ih =>
    rw [Tm.walk_mk]
    rw [Tm.shp_mk, Bool.and_eq_true, Tm.shpL_iff] at hs
    by_cases hk : k = 5 ∨ k = 6
    · rw [if_pos hk]
      have hl' : ∀ t ∈ l, ∀ p ∈ t.leaves (d + if k = 5 then 1 else 0), (f p.1 p.2).hd6 := fun t ht p hp => hl p (by
        rw [Tm.leaves, if_pos hk]
        clear ih hs hl
        induction l with
        | nil => cases ht
        | cons x xs ihx =>
          rw [Tm.leavesL]
          rcases List.mem_cons.1 ht with rfl | ht
          · exact List.mem_append_left _ hp
          · exact List.mem_append_right _ (ihx ht))
      refine Tm.remake_hd6 k s n l _ (fun h6 h => ?_) ?_
      · subst h6
        rw [Tm.walkL_map] at h
        have hl0 : l = [] := by simpa using h
        subst hl0
        simp at hs
      · cases l with
        | nil => intro h; simp [Tm.zero] at h
        | cons x xs =>
          rw [Tm.walkL_cons, List.getD_cons_zero]
          exact ih x (by simp) _ (hs.2 x (by simp)) (hl' x (by simp))
    · rw [if_neg hk]
      exact hl (.mk k s n l, d) (by rw [Tm.leaves, if_neg hk]; simp)
theorem walk_size (f : Tm → Int → Tm) (t : Tm) (d : Int) : ∀ k s n l, t = .mk k s n l → (k = 5 ∨ k = 6) → Tm.sizeL (Tm.walkL f l (d + if k = 5 then 1 else 0)) ≤ (t.walk f d).size := by
  rintro k s n l rfl hk
  rw [Tm.walk_mk, if_pos hk]
  exact Tm.remake_size _ _ _ _ _
theorem leaves_of_mem {t : Tm} {l : List Tm} (ht : t ∈ l) (d : Int) {p : Tm × Int} (hp : p ∈ t.leaves d) : p ∈ Tm.leavesL l d := by
  induction l with
  | nil => cases ht
  | cons x xs ihx =>
    rw [Tm.leavesL]
    rcases List.mem_cons.1 ht with rfl | ht
    · exact List.mem_append_left _ hp
    · exact List.mem_append_right _ (ihx ht)
/-- The relation of the walk's loop: j parts are done. -/
def WalkRel (f : Tm → Int → Tm) (H : GH) (w : World) (l : List Tm) (d : Int) (v i : Value) (wr : World) : Prop :=
  ∃ (j : Nat) (Hc : GH), j ≤ l.length ∧ i = .int .i64 j ∧ Pure H w Hc wr ∧ Own Hc wr w.heap.size 30 4 (Rep Hc) v (Tm.walkL f (l.take j) d)
theorem walkL_take (f : Tm → Int → Tm) (l : List Tm) (d : Int) (j : Nat) (x : Tm) (h : l[j]? = some x) : Tm.walkL f (l.take (j + 1)) d = Tm.walkL f (l.take j) d ++ [x.walk f d] := by
  rw [Tm.walkL_map, Tm.walkL_map, List.take_add_one, h]; simp
set_option maxHeartbeats 2000000 in
theorem walk_leaf (g : FuncId) (caps : Array Value) (eg : ∀ args w, (callFunc g args).run Try.prog w = .ok (.enter g args) w) (f : Tm → Int → Tm) (H0 : GH) (L : Tm → Int → Prop) (hleaf : LeafOK g caps f H0 L)
    (t : Tm) (d : Int) (hk : ¬ (t.k = 5 ∨ t.k = 6)) (hL : L t d) (cs : List Value) (H : GH) (w : World) (hs : Sub H0 H) (hA : Agree H w) (hR : Rep H t cs) :
    Calls Try.prog 100 #[.agg #[.func (.func g) #[] caps], .agg cs.toArray, .int .i64 d] w fun e w' => ∃ H' cs', e = .returned (.agg cs'.toArray) ∧ Pure H w H' w' ∧ Rep H' (f t d) cs' := by
  obtain ⟨-, -, hcall⟩ := hleaf t d hL
  have hcall := Lib.hid (fun W hW => hcall cs H W hs hW hR)
  clear hleaf
  obtain ⟨a, cap, rfl, -, -, -, -⟩ := hR.open_
  have b5 : (t.k == 5) = false := by rw [beq_eq_false_iff_ne]; exact fun h => hk (.inl h)
  have b6 : (t.k == 6) = false := by rw [beq_eq_false_iff_ne]; exact fun h => hk (.inr h)
  have n5 : (t.k != 5) = true := by rw [bne_iff_ne]; exact fun h => hk (.inl h)
  have n6 : (t.k != 6) = true := by rw [bne_iff_ne]; exact fun h => hk (.inr h)
  clear hk
  go_enter Try.func100, Try.ntmps100
  go_wp2_with fail
  refine (hcall.out _ ?agr).mono ?_
  case agr => exact ((hA.alloc _).alloc _).alloc _
  rintro e w1 ⟨H1, cs1, rfl, X, R1⟩
  have E1 : Pure H w H1 w1 := Ext.then ((((Ext.refl hA).alloc _).alloc _).alloc _) X
  have hn : H1 (w.heap.size + 1 + 1) = none := (X.old _ (by simp)).trans (hA.free (by omega))
  obtain ⟨hc1, hf1⟩ := bcell X.below
  obtain ⟨a1, cap1, rfl, -, -, -, -⟩ := R1.open_
  go_wp2_with fail
  exact bodyPost_ret (v := .agg #[.int .i64 (f t d).k, .string (f t d).s, .int .i64 (f t d).n, .slice a1 (f t d).l.length cap1]) (by simp [results, Try.results100, go_sem, hc1]) rfl ⟨H1, _, rfl, E1.store4 hn (by omega) _ _ _ _, R1⟩

set_option maxHeartbeats 4000000 in
theorem walk_inner (g : FuncId) (caps : Array Value) (f : Tm → Int → Tm)
    (k : Int) (s : ByteArray) (n : Int) (l : List Tm) (d : Int) (hk : k = 5 ∨ k = 6) (cs : List Value) (H : GH) (w : World) (hA : Agree H w) (hR : Rep H (.mk k s n l) cs) (hs : (Tm.mk k s n l).shp = true)
    (hd : 0 ≤ d ∧ d + (Tm.mk k s n l).size ≤ 4611686018427387904) (hsz : (Tm.mk k s n l).size ≤ LB) (hsw : ((Tm.mk k s n l).walk f d).size ≤ LB)
    (hh : ∀ u ∈ l, (u.walk f (d + if k = 5 then 1 else 0)).hd6)
    (ih : ∀ u ∈ l, ∀ cs H' w', Sub H H' → Agree H' w' → Rep H' u cs → Calls Try.prog 100 #[.agg #[.func (.func g) #[] caps], .agg cs.toArray, .int .i64 (d + if k = 5 then 1 else 0)] w' fun e w'' => ∃ H'' cs', e = .returned (.agg cs'.toArray) ∧ Pure H' w' H'' w'' ∧ Rep H'' (u.walk f (d + if k = 5 then 1 else 0)) cs') :
    Calls Try.prog 100 #[.agg #[.func (.func g) #[] caps], .agg cs.toArray, .int .i64 d] w fun e w' => ∃ H' cs', e = .returned (.agg cs'.toArray) ∧ Pure H w H' w' ∧ Rep H' ((Tm.mk k s n l).walk f d) cs' := by
  have hwi := Lib.hid (fun W => term_within (.mk k s n l) cs H W hR)
  have hkk : (Tm.mk k s n l).kids = l := by unfold Tm.kids; exact if_pos hk
  have hbb : (Tm.mk k s n l).by_ = (if k = 5 then 1 else 0) := rfl
  rw [hkk, hbb] at hwi
  have hwk := Tm.walk_mk f k s n l d
  rw [if_pos hk] at hwk
  have hso := walk_size f _ d k s n l rfl hk
  rw [Tm.size_mk] at hsz hd
  have hlen := Tm.length_le_sizeL l
  generalize hD : d + (if k = 5 then 1 else 0) = D at *
  have hDD : D = d ∨ D = d + 1 := by split at hD <;> omega
  have hbD : ∃ b : Int, (if k = 5 then 1 else 0) = b ∧ (b = 0 ∨ b = 1) ∧ d + b = D := ⟨_, rfl, by split <;> simp, hD⟩
  obtain ⟨by_, hby, hb01, hdb⟩ := hbD
  have hbl0 : 0 ≤ by_ := by omega
  have hbl1 : by_ ≤ 1 := by omega
  clear hb01
  rw [hby] at hwi
  have HDB := Lib.hid hdb
  clear hdb hby hbb hkk hD hDD
  unfold LB at hsz hsw
  have hne : k = 6 → l ≠ [] := fun h => Tm.shp_hd6 hs h
  obtain ⟨a, cap, rfl, hk64, hn64, hss, hl⟩ := hR.open_
  simp only [Tm.k_mk, Tm.s_mk, Tm.n_mk, Tm.l_mk] at *
  have hko : ((k == 5) = true ∧ (k != 5) = false) ∨ ((k == 5) = false ∧ (k != 5) = true ∧ (k != 6) = false) := by
    rcases hk with h | h <;> subst h <;> simp
  obtain ⟨hd0, hd1⟩ := hd
  have hd2 : d ≤ 4611686018427387904 := by omega
  clear hk hd1 hs hR
  rcases hko with ⟨b1, b2⟩ | ⟨b1, b2, b3⟩
  · go_enter Try.func100, Try.ntmps100
    go_wp2_with fail
    refine (hwi.out _).mono ?_
    rintro e w1 ⟨v, rfl, hT, hb1⟩
    have E1 : Pure H w H w1 := ((((Ext.refl hA).alloc _).alloc _).alloc _).then_below hb1
    obtain ⟨va, vc, rfl, hlc, hvc⟩ := hT.form
    obtain ⟨hc1, hf1⟩ := bcell hb1
    unfold maxLen at hvc
    go_wp2_with fail
    have hz1 : w.heap.size + 1 + 1 < w1.heap.size := by have := hb1.size; simp at this; omega
    go_loopw [9, 32] (fun v i wr => WalkRel f H w1 l D v i wr) (fun _ i _ => l.length - (intOf i).toNat)
    case atStart => exact ⟨0, H, Nat.zero_le _, rfl, Ext.refl E1.agree, Own.nil _ _ _ _ _ _⟩
    case round =>
      obtain ⟨j, Hc, hj, rfl, EC, own⟩ := hrel
      have hcr := (bcell EC.below).1
      have hzr : w.heap.size + 1 + 1 < wr.heap.size := Nat.lt_of_lt_of_le hz1 EC.size
      have hzA : w.heap.size < wr.heap.size := by omega
      have hzB : w.heap.size + 1 < wr.heap.size := by omega
      have q0 : wr.cell? ⟨w.heap.size, 0, none⟩ = some (.func (.func g) #[] caps) := (hcr _ _ (by omega)).trans ((hc1 _ _ (by simp; omega)).trans (by go_simp))
      by_cases hlt : j < l.length
      · have hx : l[j]? = some l[j] := List.getElem?_eq_getElem hlt
        obtain ⟨b, o, cs', rfl, hcl, hRu, hcell⟩ := hT.get hx
        have hcall := Lib.hid (fun W hW => ih l[j] (List.getElem_mem hlt) cs' Hc W EC.sub hW (hRu.mono EC.sub))
        have HX := Lib.hid hx
        obtain ⟨ua, uc, rfl, -, -, -, -⟩ := hRu.open_
        have c0 := EC.agree.cell (GH.cell?_mono EC.sub (hcell 0 _ rfl))
        have c1 := EC.agree.cell (GH.cell?_mono EC.sub (hcell 1 _ rfl))
        have c2 := EC.agree.cell (GH.cell?_mono EC.sub (hcell 2 _ rfl))
        have c3 := EC.agree.cell (GH.cell?_mono EC.sub (hcell 3 _ rfl))
        simp only [Nat.add_zero, ← Nat.add_assoc] at c0 c1 c2 c3
        have hbl := World.block_lt_of_cell? wr _ c0
        clear hx hcell hcl
        clear hcr
        go_wp2_with fail
        rw [HDB.out]
        refine (hcall.out _ (EC.agree.alloc _)).mono ?_
        rintro e w2 ⟨H2, cs2, rfl, X2, R2⟩
        have own2 := (own.alloc (.cells #[.int .i64 l[j].k, .string l[j].s, .int .i64 l[j].n, .slice ua l[j].l.length uc] 30)).pure X2 (fun _ _ h => Rep.mono X2.sub h)
        have E2 := (EC.alloc (.cells #[.int .i64 l[j].k, .string l[j].s, .int .i64 l[j].n, .slice ua l[j].l.length uc] 30)).then X2
        have hlw : (Tm.walkL f (l.take j) D).length + 1 ≤ 2513169434916 := by rw [Tm.walkL_map, List.length_map, List.length_take]; omega
        have HLW := Lib.hid hlw
        clear hlw hcall X2
        obtain ⟨xa, xc, rfl, -, -, -, -⟩ := R2.open_
        go_wp2_with (at_builtin; refine wpList_own1 rfl _ _ rfl isSl_tms _ rfl w2.heap.size 1 rfl (own2.alloc _) (E2.agree.alloc _) (Nat.le_trans E2.size (by simp)) _ (heap_alloc_new w2 _) _ R2 rfl R2.one (by have := HLW.out; unfold maxLen; omega) (by have := HLW.out; omega) ?_; intro v' w' own' hg' hb')
        go_roundw
        case rel =>
          refine ⟨j + 1, H2, by omega, by go_num, (E2.alloc _).grown hg' own2.free (fun g hg hlt => absurd hlt (Nat.not_lt.2 (own2.lt g hg).1)), ?_⟩
          rw [walkL_take f l D j _ HX.out]
          exact own'
        case measure => simp [intOf]; omega
      · have hjl : j = l.length := by omega
        rw [hjl, List.take_length] at own
        obtain ⟨H2, E2, hs2, ho2, hT2⟩ := own.freeze_ext EC (Nat.le_refl _) (fun _ _ h => h.len)
        have hT2 : Tms H2 u9 (Tm.walkL f l D) := Sl.mono (Sub.refl _) (fun _ _ _ h => Rep.mono hs2 h) hT2
        have hn2 : H2 (w.heap.size + 1 + 1) = none := (ho2 _ hz1).trans ((EC.old _ hz1).trans (hA.free (by omega)))
        have EF := E1.then E2
        have hfr := (bcell EC.below).2
        have p0 : wr.cell? ⟨w.heap.size + 1, 0, none⟩ = some (.int .i64 k) := (hcr _ _ (by omega)).trans ((hc1 _ _ (by simp)).trans (by go_simp))
        have p1 : wr.cell? ⟨w.heap.size + 1, 1, none⟩ = some (.string s) := (hcr _ _ (by omega)).trans ((hc1 _ _ (by simp)).trans (by go_simp))
        have p2 : wr.cell? ⟨w.heap.size + 1, 2, none⟩ = some (.int .i64 n) := (hcr _ _ (by omega)).trans ((hc1 _ _ (by simp)).trans (by go_simp))
        have r0 : wr.cell? ⟨w.heap.size + 1 + 1, 0, none⟩ = some (.int .i64 0) := (hcr _ _ (by omega)).trans ((hc1 _ _ (by simp)).trans (by go_simp))
        have r1 : wr.cell? ⟨w.heap.size + 1 + 1, 1, none⟩ = some (.string ⟨#[]⟩) := (hcr _ _ (by omega)).trans ((hc1 _ _ (by simp)).trans (by go_simp))
        have r2 : wr.cell? ⟨w.heap.size + 1 + 1, 2, none⟩ = some (.int .i64 0) := (hcr _ _ (by omega)).trans ((hc1 _ _ (by simp)).trans (by go_simp))
        have r3 : wr.cell? ⟨w.heap.size + 1 + 1, 3, none⟩ = some (.slice none 0 0) := (hcr _ _ (by omega)).trans ((hc1 _ _ (by simp)).trans (by go_simp))
        have fz : ∀ i, wr.frozen? ⟨w.heap.size + 1 + 1, i, none⟩ = false := fun i => (hfr _ _ (by omega)).trans ((hf1 _ _ (by simp)).trans (by go_simp))
        have fz0 := fz 0
        have fz1 := fz 1
        have fz2 := fz 2
        have fz3 := fz 3
        have hwk' := Lib.hid hwk
        clear hcr hfr fz hjl hwk hso own
        obtain ⟨oa, oc, rfl, hoc, hocm⟩ := hT2.form
        have hk6 : (k == 6) = false := by rw [beq_eq_false_iff_ne]; have := beq_iff_eq.1 b1; omega
        go_wp2_with fail
        have hE := EF.store4 hn2 (by omega) (.int .i64 k) (.string s) (.int .i64 n) (.slice oa (Tm.walkL f l D).length oc)
        refine bodyPost_ret (v := .agg #[.int .i64 k, .string s, .int .i64 n, .slice oa (Tm.walkL f l D).length oc]) (by simp [results, Try.results100, go_sem, r0, r1, r2, r3]) rfl ⟨H2, _, rfl, hE, ?_⟩
        rw [hwk'.out, Tm.remake, if_neg (fun h => by have := beq_eq_false_iff_ne.1 hk6; exact this h.1)]
        exact Rep.shut hk64 hn64 hss hT2
  · go_enter Try.func100, Try.ntmps100
    go_wp2_with fail
    refine (hwi.out _).mono ?_
    rintro e w1 ⟨v, rfl, hT, hb1⟩
    have E1 : Pure H w H w1 := ((((Ext.refl hA).alloc _).alloc _).alloc _).then_below hb1
    obtain ⟨va, vc, rfl, hlc, hvc⟩ := hT.form
    obtain ⟨hc1, hf1⟩ := bcell hb1
    unfold maxLen at hvc
    go_wp2_with fail
    have hz1 : w.heap.size + 1 + 1 < w1.heap.size := by have := hb1.size; simp at this; omega
    go_loopw [9, 32] (fun v i wr => WalkRel f H w1 l D v i wr) (fun _ i _ => l.length - (intOf i).toNat)
    case atStart => exact ⟨0, H, Nat.zero_le _, rfl, Ext.refl E1.agree, Own.nil _ _ _ _ _ _⟩
    case round =>
      obtain ⟨j, Hc, hj, rfl, EC, own⟩ := hrel
      have hcr := (bcell EC.below).1
      have hzr : w.heap.size + 1 + 1 < wr.heap.size := Nat.lt_of_lt_of_le hz1 EC.size
      have hzA : w.heap.size < wr.heap.size := by omega
      have hzB : w.heap.size + 1 < wr.heap.size := by omega
      have q0 : wr.cell? ⟨w.heap.size, 0, none⟩ = some (.func (.func g) #[] caps) := (hcr _ _ (by omega)).trans ((hc1 _ _ (by simp; omega)).trans (by go_simp))
      by_cases hlt : j < l.length
      · have hx : l[j]? = some l[j] := List.getElem?_eq_getElem hlt
        obtain ⟨b, o, cs', rfl, hcl, hRu, hcell⟩ := hT.get hx
        have hcall := Lib.hid (fun W hW => ih l[j] (List.getElem_mem hlt) cs' Hc W EC.sub hW (hRu.mono EC.sub))
        have HX := Lib.hid hx
        obtain ⟨ua, uc, rfl, -, -, -, -⟩ := hRu.open_
        have c0 := EC.agree.cell (GH.cell?_mono EC.sub (hcell 0 _ rfl))
        have c1 := EC.agree.cell (GH.cell?_mono EC.sub (hcell 1 _ rfl))
        have c2 := EC.agree.cell (GH.cell?_mono EC.sub (hcell 2 _ rfl))
        have c3 := EC.agree.cell (GH.cell?_mono EC.sub (hcell 3 _ rfl))
        simp only [Nat.add_zero, ← Nat.add_assoc] at c0 c1 c2 c3
        have hbl := World.block_lt_of_cell? wr _ c0
        clear hx hcell hcl
        clear hcr
        go_wp2_with fail
        rw [HDB.out]
        refine (hcall.out _ (EC.agree.alloc _)).mono ?_
        rintro e w2 ⟨H2, cs2, rfl, X2, R2⟩
        have own2 := (own.alloc (.cells #[.int .i64 l[j].k, .string l[j].s, .int .i64 l[j].n, .slice ua l[j].l.length uc] 30)).pure X2 (fun _ _ h => Rep.mono X2.sub h)
        have E2 := (EC.alloc (.cells #[.int .i64 l[j].k, .string l[j].s, .int .i64 l[j].n, .slice ua l[j].l.length uc] 30)).then X2
        have hlw : (Tm.walkL f (l.take j) D).length + 1 ≤ 2513169434916 := by rw [Tm.walkL_map, List.length_map, List.length_take]; omega
        have HLW := Lib.hid hlw
        clear hlw hcall X2
        obtain ⟨xa, xc, rfl, -, -, -, -⟩ := R2.open_
        go_wp2_with (at_builtin; refine wpList_own1 rfl _ _ rfl isSl_tms _ rfl w2.heap.size 1 rfl (own2.alloc _) (E2.agree.alloc _) (Nat.le_trans E2.size (by simp)) _ (heap_alloc_new w2 _) _ R2 rfl R2.one (by have := HLW.out; unfold maxLen; omega) (by have := HLW.out; omega) ?_; intro v' w' own' hg' hb')
        go_roundw
        case rel =>
          refine ⟨j + 1, H2, by omega, by go_num, (E2.alloc _).grown hg' own2.free (fun g hg hlt => absurd hlt (Nat.not_lt.2 (own2.lt g hg).1)), ?_⟩
          rw [walkL_take f l D j _ HX.out]
          exact own'
        case measure => simp [intOf]; omega
      · have hjl : j = l.length := by omega
        rw [hjl, List.take_length] at own
        obtain ⟨H2, E2, hs2, ho2, hT2⟩ := own.freeze_ext EC (Nat.le_refl _) (fun _ _ h => h.len)
        have hT2 : Tms H2 u9 (Tm.walkL f l D) := Sl.mono (Sub.refl _) (fun _ _ _ h => Rep.mono hs2 h) hT2
        have hn2 : H2 (w.heap.size + 1 + 1) = none := (ho2 _ hz1).trans ((EC.old _ hz1).trans (hA.free (by omega)))
        have EF := E1.then E2
        have hfr := (bcell EC.below).2
        have p0 : wr.cell? ⟨w.heap.size + 1, 0, none⟩ = some (.int .i64 k) := (hcr _ _ (by omega)).trans ((hc1 _ _ (by simp)).trans (by go_simp))
        have p1 : wr.cell? ⟨w.heap.size + 1, 1, none⟩ = some (.string s) := (hcr _ _ (by omega)).trans ((hc1 _ _ (by simp)).trans (by go_simp))
        have p2 : wr.cell? ⟨w.heap.size + 1, 2, none⟩ = some (.int .i64 n) := (hcr _ _ (by omega)).trans ((hc1 _ _ (by simp)).trans (by go_simp))
        have r0 : wr.cell? ⟨w.heap.size + 1 + 1, 0, none⟩ = some (.int .i64 0) := (hcr _ _ (by omega)).trans ((hc1 _ _ (by simp)).trans (by go_simp))
        have r1 : wr.cell? ⟨w.heap.size + 1 + 1, 1, none⟩ = some (.string ⟨#[]⟩) := (hcr _ _ (by omega)).trans ((hc1 _ _ (by simp)).trans (by go_simp))
        have r2 : wr.cell? ⟨w.heap.size + 1 + 1, 2, none⟩ = some (.int .i64 0) := (hcr _ _ (by omega)).trans ((hc1 _ _ (by simp)).trans (by go_simp))
        have r3 : wr.cell? ⟨w.heap.size + 1 + 1, 3, none⟩ = some (.slice none 0 0) := (hcr _ _ (by omega)).trans ((hc1 _ _ (by simp)).trans (by go_simp))
        have fz : ∀ i, wr.frozen? ⟨w.heap.size + 1 + 1, i, none⟩ = false := fun i => (hfr _ _ (by omega)).trans ((hf1 _ _ (by simp)).trans (by go_simp))
        have fz0 := fz 0
        have fz1 := fz 1
        have fz2 := fz 2
        have fz3 := fz 3
        have hwk' := Lib.hid hwk
        clear hcr hfr fz hjl hwk hso own
        have h6 : (k == 6) = true := by rw [beq_iff_eq]; have := bne_eq_false_iff_eq.1 b3; exact this
        have hlo : (Tm.walkL f l D).length = l.length := by rw [Tm.walkL_map, List.length_map]
        by_cases h1 : 1 < (Tm.walkL f l D).length
        · have h0 : 0 < (Tm.walkL f l D).length := by omega
          obtain ⟨X0, hx0⟩ : ∃ x, (Tm.walkL f l D)[0]? = some x := ⟨_, List.getElem?_eq_getElem h0⟩
          obtain ⟨oa, oc, rfl, hoc, hocm⟩ := hT2.form
          obtain ⟨ob, oo, ocs, rfl, -, hR0, hcell0⟩ := hT2.get hx0
          obtain ⟨y0, hy0⟩ : ∃ y, l[0]? = some y := ⟨_, List.getElem?_eq_getElem (by omega)⟩
          obtain ⟨lb, lo, lcs, rfl, -, hRl0, hcelll⟩ := hT.get hy0
          obtain ⟨ua, uc, rfl, -, -, -, -⟩ := hR0.open_
          obtain ⟨la, lc, rfl, -, -, -, -⟩ := hRl0.open_
          have s0 := E2.agree.cell (hcell0 0 _ rfl)
          have s1 := E2.agree.cell (hcell0 1 _ rfl)
          have s2 := E2.agree.cell (hcell0 2 _ rfl)
          have s3 := E2.agree.cell (hcell0 3 _ rfl)
          have m0 := E2.agree.cell (GH.cell?_mono E2.sub (hcelll 0 _ rfl))
          simp only [Nat.add_zero, Nat.zero_mul, Nat.zero_add] at s0 s1 s2 s3 m0
          have hg0 : (Tm.walkL f l D).getD 0 Tm.zero = X0 := by rw [List.getD_eq_getElem?_getD, hx0]; rfl
          have hg1 : l.getD 0 Tm.zero = y0 := by rw [List.getD_eq_getElem?_getD, hy0]; rfl
          have hh0 : X0.hd6 := by
            have : X0 = y0.walk f D := by
              rw [Tm.walkL_map, List.getElem?_map, hy0] at hx0
              simpa using hx0.symm
            rw [this]; exact hh _ (List.mem_of_getElem? hy0)
          have hrm : Tm.remake k s n l (Tm.walkL f l D) = if X0.k = 6 ∧ y0.k ≠ 6 then Tm.apply X0 ((Tm.walkL f l D).drop 1) else .mk k s n (Tm.walkL f l D) := by
            have hk : k = 6 := beq_iff_eq.1 h6
            unfold Tm.remake
            rw [hg0, hg1]
            by_cases hc : X0.k = 6 ∧ y0.k ≠ 6
            · rw [if_pos ⟨hk, h1, hc⟩, if_pos hc]
            · rw [if_neg (fun h => hc h.2.2), if_neg hc]
          have HRM := Lib.hid hrm
          have H1 : (1 : Int) < ((Tm.walkL f l D).length : Int) := by omega
          have hl0p : (0 : Int) < (l.length : Int) := by omega
          have hM0p : (0 : Int) < ((Tm.walkL f l D).length : Int) := by omega
          have HLO := Lib.hid hlo
          have hTd := hT2.drop 1 (by omega)
          have hszd : (Tm.walkL f l D).length ≤ 2513169434916 := by omega
          clear hrm hy0 hg0 hg1 hcelll hcell0
          clear hx0 h0 hlo
          generalize hM : (Tm.walkL f l D).length = M at *
          have HM := Lib.hid hM
          clear hM
          cases hb6 : (X0.k == 6) with
          | false =>
            go_wp2_with fail
            have hE := EF.store4 hn2 (by omega) (.int .i64 k) (.string s) (.int .i64 n) (.slice (some ⟨ob, oo, none⟩) M oc)
            refine bodyPost_ret (v := .agg #[.int .i64 k, .string s, .int .i64 n, .slice (some ⟨ob, oo, none⟩) M oc]) (by simp [results, Try.results100, go_sem, r0, r1, r2, r3]) rfl ⟨H2, _, rfl, hE, ?_⟩
            rw [hwk'.out, HRM.out, if_neg (fun h => by have := beq_eq_false_iff_ne.1 hb6; exact this h.1)]
            exact Rep.shut hk64 hn64 hss hT2
          | true =>
            cases hl6 : (y0.k != 6) with
            | false =>
              go_wp2_with fail
              have hE := EF.store4 hn2 (by omega) (.int .i64 k) (.string s) (.int .i64 n) (.slice (some ⟨ob, oo, none⟩) M oc)
              refine bodyPost_ret (v := .agg #[.int .i64 k, .string s, .int .i64 n, .slice (some ⟨ob, oo, none⟩) M oc]) (by simp [results, Try.results100, go_sem, r0, r1, r2, r3]) rfl ⟨H2, _, rfl, hE, ?_⟩
              rw [hwk'.out, HRM.out, if_neg (fun h => by have := bne_eq_false_iff_eq.1 hl6; exact h.2 this)]
              exact Rep.shut hk64 hn64 hss hT2
            | true =>
              have hcap : (oc = 1) ↔ False := by simp; omega
              have hcap1 : ((1 : Int) ≤ (oc : Int)) := by omega
              have hM1 : ((1 : Int) ≤ (M : Int)) := by omega
              have hMn : 0 < M := by omega
              have hMn1 : 1 ≤ M := by omega
              have hoc1 : ¬ (oc = 1) := by omega
              clear hcap
              go_wp2_with fail
              go_still_tail 5, (by kernel_rfl)
              change wpList _ _ _ _ _ wr.drew
              have hra : Tm.remake k s n l (Tm.walkL f l D) = Tm.apply X0 ((Tm.walkL f l D).drop 1) := by
                rw [HRM.out, if_pos ⟨beq_iff_eq.1 hb6, bne_iff_ne.1 hl6⟩]
              have HRA := Lib.hid hra
              clear hra
              go_wp2_with fail
              refine (term_Apply X0 _ ((Tm.walkL f l D).drop 1) _ H2 _ hR0 (by simpa only [Nat.one_mul] using hTd) E2.agree.drew hh0 ?len).mono ?_
              case len =>
                rw [← HRA.out, ← hwk'.out]
                unfold LB
                cases hq : Tm.walk f (Tm.mk k s n l) d with
                | mk k' s' n' l' =>
                  rw [hq] at hsw
                  have := Tm.length_lt k' s' n' l'
                  show l'.length ≤ _
                  omega
              rintro e w2 ⟨H3, cs3, rfl, X3, R3⟩
              have E3 := (EF.drew).then X3
              have hn3 : H3 (w.heap.size + 1 + 1) = none := (X3.old _ (by show _ < wr.heap.size; omega)).trans hn2
              have hx3 := (bcell X3.below).1
              have hx4 := (bcell X3.below).2
              have t0 := (hx3 (w.heap.size + 1 + 1) 0 (by show _ < wr.heap.size; omega)).trans r0
              have t1 := (hx3 (w.heap.size + 1 + 1) 1 (by show _ < wr.heap.size; omega)).trans r1
              have t2 := (hx3 (w.heap.size + 1 + 1) 2 (by show _ < wr.heap.size; omega)).trans r2
              have t3 := (hx3 (w.heap.size + 1 + 1) 3 (by show _ < wr.heap.size; omega)).trans r3
              have v0 := (hx4 (w.heap.size + 1 + 1) 0 (by show _ < wr.heap.size; omega)).trans fz0
              have v1 := (hx4 (w.heap.size + 1 + 1) 1 (by show _ < wr.heap.size; omega)).trans fz1
              have v2 := (hx4 (w.heap.size + 1 + 1) 2 (by show _ < wr.heap.size; omega)).trans fz2
              have v3 := (hx4 (w.heap.size + 1 + 1) 3 (by show _ < wr.heap.size; omega)).trans fz3
              clear hx3 hx4 X3
              generalize hY : X0.apply ((Tm.walkL f l D).drop 1) = Y at R3
              have HY := Lib.hid hY
              clear hY
              obtain ⟨ra, rc, rfl, -, -, -, -⟩ := R3.open_
              go_wp2_with fail
              have hE := E3.store4 hn3 (by omega) (.int .i64 Y.k) (.string Y.s) (.int .i64 Y.n) (.slice ra Y.l.length rc)
              refine bodyPost_ret (v := .agg #[.int .i64 Y.k, .string Y.s, .int .i64 Y.n, .slice ra Y.l.length rc]) (by simp [results, Try.results100, go_sem, t0, t1, t2, t3]) rfl ⟨H3, _, rfl, hE, ?_⟩
              rw [hwk'.out, HRA.out, HY.out]
              exact R3
        · have H1 : ¬ ((1 : Int) < ((Tm.walkL f l D).length : Int)) := by omega
          obtain ⟨oa, oc, rfl, hoc, hocm⟩ := hT2.form
          have HLO := Lib.hid hlo
          clear hlo
          go_wp2_with fail
          have hE := EF.store4 hn2 (by omega) (.int .i64 k) (.string s) (.int .i64 n) (.slice oa (Tm.walkL f l D).length oc)
          refine bodyPost_ret (v := .agg #[.int .i64 k, .string s, .int .i64 n, .slice oa (Tm.walkL f l D).length oc]) (by simp [results, Try.results100, go_sem, r0, r1, r2, r3]) rfl ⟨H2, _, rfl, hE, ?_⟩
          rw [hwk'.out, Tm.remake, if_neg (fun h => h1 h.2.1)]
          exact Rep.shut hk64 hn64 hss hT2
end Go.Proofs.Ytbdappbmlnpogaa
