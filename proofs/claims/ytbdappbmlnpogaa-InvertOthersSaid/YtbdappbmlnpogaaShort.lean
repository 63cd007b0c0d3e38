/- eta.short, Short, Leaf; clause.Split. -/
import Derived.Test.YtbdappbmlnpogaaDrop
namespace Go.Proofs.Ytbdappbmlnpogaa
open Go Go.RowKit
set_option maxRecDepth 100000
namespace Tm
theorem short_mk (k s n l) : (mk k s n l).short = if k = 5 then (if (drop ((shortL l).getD 0 zero)).2 then (drop ((shortL l).getD 0 zero)).1 else lams 1 ((shortL l).getD 0 zero)) else if k = 6 then apply ((shortL l).getD 0 zero) ((shortL l).drop 1) else .mk k s n l := by
  rw [short]
theorem lams_one (t : Tm) : lams 1 t = .mk 5 ByteArray.empty 0 [t] := rfl
theorem short_fit (t : Tm) : ∀ S B, Fit S B t → Fit S B t.short ∧ t.short.size ≤ t.size := by
  induction t using ind with
  | h k s n l ih =>
    intro S B h
    rw [short_mk]
    split
    · rename_i h5
      subst h5
      obtain ⟨-, -, h1⟩ := ok1_lam.1 ((valid_iff ..).1 h.v).1
      obtain ⟨x, rfl⟩ := List.length_eq_one_iff.1 h1
      have hx := ih x (by simp) S B (h.mem (by simp))
      have hsz := h.s
      rw [shortL_map]
      simp only [List.map_cons, List.map_nil, List.getD_cons_zero]
      rw [size_mk] at hsz ⊢
      simp only [sizeL_cons, sizeL_nil] at hsz ⊢
      split
      · rename_i hd
        obtain ⟨h2, h3⟩ := drop_fit hx.1 hd
        exact ⟨h2, by omega⟩
      · rw [lams_one]
        refine ⟨⟨(valid_iff ..).2 ⟨ok1_lam.2 ⟨rfl, rfl, rfl⟩, by simpa using hx.1.v⟩, ?_, (bnd_iff ..).2 ⟨by simp, by simpa using hx.1.b⟩⟩, ?_⟩
        · rw [size_mk]; simp; omega
        · rw [size_mk]; simp; omega
    · split
      · rename_i h5 h6
        subst h6
        obtain ⟨-, -, h2, -⟩ := ok1_app.1 ((valid_iff ..).1 h.v).1
        cases l with
        | nil => simp at h2
        | cons x xs =>
          rw [shortL_map]
          simp only [List.map_cons, List.getD_cons_zero, List.drop_succ_cons, List.drop_zero]
          have hx := ih x (by simp) S B (h.mem (by simp))
          have hxs : ∀ u ∈ xs, Fit S B u.short ∧ u.short.size ≤ u.size := fun u hu => ih u (by simp [hu]) S B (h.mem (by simp [hu]))
          have hss : sizeL (xs.map short) ≤ sizeL xs := by
            clear ih h h2 hx
            induction xs with
            | nil => simp
            | cons y ys ihy =>
              have := ihy (fun u hu => hxs u (by simp [hu]))
              have := (hxs y (by simp)).2
              simp only [List.map_cons, sizeL_cons]; omega
          have h3 := (apply_size x.short (xs.map short)).1
          have hsz := h.s
          rw [size_mk, sizeL_cons] at hsz ⊢
          have hmem : ∀ u ∈ xs.map short, Fit S B u := fun u hu => by
            obtain ⟨y, hy, rfl⟩ := List.mem_map.1 hu
            exact (hxs y hy).1
          exact ⟨⟨valid_apply hx.1.v fun u hu => (hmem u hu).v, by omega, bnd_apply hx.1.b fun u hu => (hmem u hu).b⟩, by omega⟩
      · exact ⟨h, Nat.le_refl _⟩
theorem bnd_far (t : Tm) : t.valid = true → t.bnd far = true := by
  induction t using ind with
  | h k s n l ih =>
    intro hv
    obtain ⟨g1, g2⟩ := (valid_iff ..).1 hv
    exact (bnd_iff ..).2 ⟨fun e => by subst e; exact (ok1_bound.1 g1).2.2.1, fun u hu => ih u hu (g2 u hu)⟩
theorem fit_self {t : Tm} (h : t.valid = true) : Fit t.size far t := ⟨h, Nat.le_refl _, bnd_far t h⟩
theorem shortL_take (l : List Tm) (j : Nat) (x : Tm) (h : l[j]? = some x) : shortL (l.take (j + 1)) = shortL (l.take j) ++ [x.short] := by
  rw [shortL_map, shortL_map, List.take_add_one, h]; simp
end Tm
/-- The relation of short's loop: j parts are done. -/
def ShortRel (H : GH) (w : World) (l : List Tm) (v i : Value) (wr : World) : Prop :=
  ∃ (j : Nat) (Hc : GH), j ≤ l.length ∧ i = .int .i64 j ∧ Pure H w Hc wr ∧ Own Hc wr w.heap.size 30 4 (Rep Hc) v (Tm.shortL (l.take j))
def ShortPost (H : GH) (w : World) (t : Tm) (e : Ending) (w' : World) : Prop := ∃ H' cs', e = .returned (.agg cs'.toArray) ∧ Pure H w H' w' ∧ Rep H' t.short cs'
set_option maxHeartbeats 2000000 in
theorem short_other (t : Tm) (cs : List Value) (H : GH) (w : World) (hR : Rep H t cs) (hA : Agree H w) (h5 : t.k ≠ 5) (h6 : t.k ≠ 6) :
    Calls Try.prog 61 #[.agg cs.toArray] w (ShortPost H w t) := by
  have ho := Lib.hid (show t.short = t by cases t with | mk k s n l => rw [Tm.short_mk, if_neg (show ¬ k = 5 from h5), if_neg (show ¬ k = 6 from h6)])
  have hR0 := Lib.hid hR
  obtain ⟨a, cap, rfl, -, -, -, -⟩ := hR.open_
  clear hR
  have E0 := Lib.hid (((Ext.refl (O := fun _ => False) hA).alloc (tbox t a cap)).alloc zbox)
  have B0 := Lib.hid (show ((w.alloc (tbox t a cap)).alloc zbox).heap[w.heap.size]? = some (tbox t a cap) from Below.blk (below_alloc _ _) (heap_alloc_new _ _))
  have B1 := Lib.hid (show ((w.alloc (tbox t a cap)).alloc zbox).heap[w.heap.size + 1]? = some zbox from heap_alloc_at _ _ _ (by simp))
  have b5 : (t.k == 5) = false := by rw [beq_eq_false_iff_ne]; exact h5
  have b6 : (t.k == 6) = false := by rw [beq_eq_false_iff_ne]; exact h6
  have E1 := Lib.hid ((E0.out).store4 (hA.free (Nat.le_add_right _ 1)) (by omega) (.int .i64 t.k) (.string t.s) (.int .i64 t.n) (.slice a t.l.length cap))
  have E2 := Lib.hid (((Ext.refl (O := fun _ => False) hA).alloc (tbox t a cap)).alloc (tbox t a cap))
  go_enter Try.func61, Try.ntmps61
  go_wp2_with fail
  refine bodyPost_ret (v := .agg #[.int .i64 t.k, .string t.s, .int .i64 t.n, .slice a t.l.length cap]) (by simp [results, Try.results61, go_sem]) rfl ?_
  refine ⟨H, _, rfl, E2.out, ?_⟩
  rw [ho.out]
  exact hR0.out
set_option maxHeartbeats 4000000 in
theorem short_lam (s : ByteArray) (n : Int) (x : Tm) (cs : List Value) (H : GH) (w : World) (hR : Rep H (.mk 5 s n [x]) cs) (hA : Agree H w) (hv : x.valid = true) (hsz : x.size ≤ SB)
    (ih : ∀ (cs : List Value) (H : GH) (w : World), Rep H x cs → Agree H w → Calls Try.prog 61 #[.agg cs.toArray] w (ShortPost H w x)) :
    Calls Try.prog 61 #[.agg cs.toArray] w (ShortPost H w (.mk 5 s n [x])) := by
  have ho := Lib.hid (Tm.short_mk 5 s n [x])
  rw [Tm.shortL_map, if_pos rfl] at ho
  simp only [List.map_cons, List.map_nil, List.getD_cons_zero] at ho
  have hf := (Tm.short_fit x _ _ (Tm.fit_self hv))
  have hdr := Lib.hid (fun cs H w hR hA => eta_drop x.short cs H w hR hA hf.1.v (Nat.le_trans hf.2 hsz))
  have hlm := Lib.hid (fun cs H w hA hR => term_Lams 1 x.short cs H w (by unfold LB; omega) hA hR)
  obtain ⟨a, cap, rfl, hk64, hn64, hss, hT⟩ := hR.open_
  simp only [Tm.k_mk, Tm.s_mk, Tm.n_mk, Tm.l_mk] at *
  obtain ⟨b, o, xcs, rfl, -, hRx, hcx⟩ := hT.get (i := 0) (x := x) rfl
  have hsh := Lib.hid (fun W hW => ih xcs H W hRx hW)
  obtain ⟨xa, xc, rfl, -, -, -, -⟩ := hRx.open_
  have c0 := hA.cell (hcx 0 _ rfl)
  have c1 := hA.cell (hcx 1 _ rfl)
  have c2 := hA.cell (hcx 2 _ rfl)
  have c3 := hA.cell (hcx 3 _ rfl)
  simp only [Nat.add_zero, Nat.zero_mul] at c0 c1 c2 c3
  have hbl : b < w.heap.size := World.block_lt_of_cell? w _ c0
  have Bx : Obj := .cells #[.int .i64 5, .string s, .int .i64 n, .slice (some ⟨b, o, none⟩) 1 cap] 30 (0, 0)
  have E0 := Lib.hid (((Ext.refl (O := fun _ => False) hA).alloc (.cells #[.int .i64 5, .string s, .int .i64 n, .slice (some ⟨b, o, none⟩) 1 cap] 30 (0, 0))).alloc zbox)
  have B1 := Lib.hid (show ((w.alloc (.cells #[.int .i64 5, .string s, .int .i64 n, .slice (some ⟨b, o, none⟩) 1 cap] 30 (0, 0))).alloc zbox).heap[w.heap.size + 1]? = some zbox from heap_alloc_at _ _ _ (by simp))
  have hn1 : Hid (H (w.heap.size + 1) = none) := Lib.hid (hA.free (by omega))
  clear hcx hRx hT hR ih hf
  simp only [List.length_cons, List.length_nil, Nat.zero_add] at *
  go_enter Try.func61, Try.ntmps61
  go_wp2_with fail
  refine (hsh.out _ E0.out.agree).mono ?_
  rintro e w1 ⟨H1, cs1, rfl, X1, R1⟩
  have E1 := E0.out.then X1
  have q1 := Below.blk X1.below B1.out
  have hn2 : H1 (w.heap.size + 1) = none := (X1.old _ (cell_lt B1.out)).trans hn1.out
  have hRS := Lib.hid R1
  generalize hY : x.short = Y at *
  obtain ⟨ya, yc, rfl, -, -, -, -⟩ := R1.open_
  have hdr1 := Lib.hid (fun W hW => hdr.out _ H1 W hRS.out hW)
  have q2 := Lib.hid (heap_alloc_new w1 (tbox Y ya yc))
  have hw2 : w.heap.size + 1 < w1.heap.size := cell_lt q1
  clear R1 hsh c0 c1 c2 c3
  go_wp2_with fail
  refine (hdr1.out _ (E1.agree.alloc _)).mono ?_
  rintro e w2 ⟨H2, cs2, rfl, X2, R2⟩
  have E2 := (E1.alloc (tbox Y ya yc)).then X2
  have q3 := Below.blk X2.below (Below.blk (below_alloc w1 (tbox Y ya yc)) q1)
  have q4 := Below.blk X2.below q2.out
  have hn3 : H2 (w.heap.size + 1) = none := (X2.old _ (by simp; omega)).trans hn2
  generalize hD : Y.drop = D at *
  obtain ⟨D, is⟩ := D
  obtain ⟨da, dc, rfl, -, -, -, -⟩ := R2.open_
  have hY' := Lib.hid hY
  have hD' := Lib.hid hD
  clear hY hD
  have hw3 : w1.heap.size < w2.heap.size := cell_lt q4
  obtain ⟨p0, p1, p2, p3, p4, p5, p6, p7, p8⟩ := box4 q3
  cases is with
  | true =>
    have hout : Hid ((Tm.mk 5 s n [x]).short = D) := Lib.hid (by rw [ho.out]; simp)
    go_wp2_with fail
    have E3 := (E2.store4 hn3 (by omega) (.int .i64 D.k) (.string D.s) (.int .i64 D.n) (.slice da D.l.length dc)).alloc (tbox D da dc)
    refine bodyPost_ret (v := .agg #[.int .i64 D.k, .string D.s, .int .i64 D.n, .slice da D.l.length dc]) (by simp [results, Try.results61, go_sem, p0, p1, p2, p3, p4]) rfl ?_
    refine ⟨H2, _, rfl, E3, ?_⟩
    rw [hout.out]
    exact R2
  | false =>
    have hout : Hid ((Tm.mk 5 s n [x]).short = Tm.lams 1 Y) := Lib.hid (by rw [ho.out]; simp)
    have hlm1 := Lib.hid (fun W hW => hlm.out _ H2 W hW (hRS.out.mono (X2.sub)))
    obtain ⟨r0, r1, r2, r3, r4, r5, r6, r7, r8⟩ := box4 q4
    go_wp2_with fail
    refine (hlm1.out _ (E2.agree.alloc _)).mono ?_
    rintro e w3 ⟨H3, cs3, rfl, X3, R3⟩
    have E3 := (E2.alloc (tbox D da dc)).then X3
    have q5 := Below.blk X3.below (Below.blk (below_alloc w2 (tbox D da dc)) q3)
    have hn4 : H3 (w.heap.size + 1) = none := (X3.old _ (by simp; omega)).trans hn3
    obtain ⟨s0, s1, s2, s3, s4, s5, s6, s7, s8⟩ := box4 q5
    generalize hZ : Tm.lams 1 Y = Z at *
    obtain ⟨za, zc, rfl, -, -, -, -⟩ := R3.open_
    have hZ' := Lib.hid hZ
    clear hZ
    go_wp2_with fail
    have E4 := E3.store4 hn4 (by omega) (.int .i64 Z.k) (.string Z.s) (.int .i64 Z.n) (.slice za Z.l.length zc)
    refine bodyPost_ret (v := .agg #[.int .i64 Z.k, .string Z.s, .int .i64 Z.n, .slice za Z.l.length zc]) (by simp [results, Try.results61, go_sem, s1, s2, s3, s4]) rfl ?_
    refine ⟨H3, _, rfl, E4, ?_⟩
    rw [hout.out]
    exact R3
set_option maxHeartbeats 4000000 in
theorem short_app (s : ByteArray) (n : Int) (l : List Tm) (cs : List Value) (H : GH) (w : World) (hR : Rep H (.mk 6 s n l) cs) (hA : Agree H w) (hv : (Tm.mk 6 s n l).valid = true) (hsz : (Tm.mk 6 s n l).size ≤ SB)
    (ih : ∀ x ∈ l, ∀ (cs : List Value) (H : GH) (w : World), Rep H x cs → Agree H w → Calls Try.prog 61 #[.agg cs.toArray] w (ShortPost H w x)) :
    Calls Try.prog 61 #[.agg cs.toArray] w (ShortPost H w (.mk 6 s n l)) := by
  have ho := Lib.hid (Tm.short_mk 6 s n l)
  rw [if_neg (by omega), if_pos rfl] at ho
  obtain ⟨g1, g2⟩ := (Tm.valid_iff ..).1 hv
  obtain ⟨-, -, hl2, -⟩ := Tm.ok1_app.1 g1
  have hfit := (Tm.short_fit _ _ _ (Tm.fit_self hv)).2
  have hlz : l.length ≤ 1073741824 := by have := Tm.length_lt 6 s n l; unfold SB at hsz; omega
  have hmv : ∀ x ∈ l, x.short.valid = true := fun x hx => (Tm.short_fit x _ _ (Tm.fit_self (g2 x hx))).1.v
  have hlen : ((Tm.mk 6 s n l).short).l.length ≤ LB := by
    have : ((Tm.mk 6 s n l).short).l.length < ((Tm.mk 6 s n l).short).size := by cases (Tm.mk 6 s n l).short with | mk k s n l => exact Tm.length_lt k s n l
    unfold SB at hsz; unfold LB; omega
  have HLEN := Lib.hid hlen
  obtain ⟨a, cap, rfl, hk64, hn64, hss, hT⟩ := hR.open_
  simp only [Tm.k_mk, Tm.s_mk, Tm.n_mk, Tm.l_mk] at *
  obtain ⟨-, hlc, hcm⟩ := hT.len
  unfold maxLen at hcm
  have E0 := Lib.hid (((Ext.refl (O := fun _ => False) hA).alloc (.cells #[.int .i64 6, .string s, .int .i64 n, .slice a l.length cap] 30 (0, 0))).alloc zbox)
  have B1 := Lib.hid (show ((w.alloc (.cells #[.int .i64 6, .string s, .int .i64 n, .slice a l.length cap] 30 (0, 0))).alloc zbox).heap[w.heap.size + 1]? = some zbox from heap_alloc_at _ _ _ (by simp))
  have hn1 : Hid (H (w.heap.size + 1) = none) := Lib.hid (hA.free (by omega))
  have hN64 : (l.length : Int) ≤ 1073741824 := by omega
  clear hv hsz hfit g1 g2 hR hlen
  go_enter Try.func61, Try.ntmps61
  go_wp2_with fail
  go_loopw [6, 32] (fun v i wr => ShortRel H ((w.alloc (.cells #[.int .i64 6, .string s, .int .i64 n, .slice a l.length cap] 30 (0, 0))).alloc zbox) l v i wr) (fun _ i _ => l.length - (intOf i).toNat)
  case atStart => exact ⟨0, H, Nat.zero_le _, rfl, Ext.refl E0.out.agree, Own.nil _ _ _ _ _ _⟩
  case round =>
    obtain ⟨j, Hc, hj, rfl, EC, own⟩ := hrel
    by_cases hlt : j < l.length
    · obtain ⟨x, hx⟩ : ∃ x, l[j]? = some x := ⟨_, List.getElem?_eq_getElem hlt⟩
      obtain ⟨b, o, xcs, rfl, -, hRx, hcell⟩ := hT.get hx
      have hcall := Lib.hid (fun W hW => ih x (List.mem_of_getElem? hx) xcs Hc W (hRx.mono EC.sub) hW)
      have HX := Lib.hid hx
      obtain ⟨xa, xc, rfl, -, -, -, -⟩ := hRx.open_
      have c0 := EC.agree.cell (GH.cell?_mono EC.sub (hcell 0 _ rfl))
      have c1 := EC.agree.cell (GH.cell?_mono EC.sub (hcell 1 _ rfl))
      have c2 := EC.agree.cell (GH.cell?_mono EC.sub (hcell 2 _ rfl))
      have c3 := EC.agree.cell (GH.cell?_mono EC.sub (hcell 3 _ rfl))
      simp only [Nat.add_zero, ← Nat.add_assoc] at c0 c1 c2 c3
      have hbl := World.block_lt_of_cell? wr _ c0
      clear hx hcell
      go_wp2_with fail
      refine (hcall.out _ (EC.agree.alloc _)).mono ?_
      rintro e w2 ⟨H2, cs2, rfl, X2, R2⟩
      have own2 := (own.alloc (tbox x xa xc)).pure X2 (fun _ _ h => Rep.mono X2.sub h)
      have E2 := (EC.alloc (tbox x xa xc)).then X2
      have hlw : (Tm.shortL (l.take j)).length + 1 ≤ 2513169434916 := by rw [Tm.shortL_map, List.length_map, List.length_take]; omega
      have HLW := Lib.hid hlw
      clear hlw hcall X2
      obtain ⟨ya, yc, rfl, -, -, -, -⟩ := R2.open_
      go_wp2_with (at_builtin; refine wpList_own1 rfl _ _ rfl isSl_tms _ rfl w2.heap.size 1 rfl (own2.alloc _) (E2.agree.alloc _) (Nat.le_trans E2.size (by simp)) _ (heap_alloc_new w2 _) _ R2 rfl R2.one (by have := HLW.out; unfold maxLen; omega) (by have := HLW.out; omega) ?_; intro v' w' own' hg' hb')
      go_roundw
      case rel =>
        refine ⟨j + 1, H2, by omega, by go_num, (E2.alloc _).grown hg' own2.free (fun g hg hlt => absurd hlt (Nat.not_lt.2 (own2.lt g hg).1)), ?_⟩
        rw [Tm.shortL_take l j _ HX.out]
        exact own'
      case measure => simp [intOf]; omega
    · have hjl : j = l.length := by omega
      rw [hjl, List.take_length] at own
      obtain ⟨H2, E2, hs2, ho2, hT2⟩ := own.freeze_ext EC (Nat.le_refl _) (fun _ _ h => h.len)
      have hT2 : Tms H2 _ (Tm.shortL l) := Sl.mono (Sub.refl _) (fun _ _ _ h => Rep.mono hs2 h) hT2
      have q1 := Below.blk EC.below B1.out
      have hn2 : H2 (w.heap.size + 1) = none := (ho2 _ (cell_lt B1.out)).trans ((EC.old _ (cell_lt B1.out)).trans hn1.out)
      have EF := E0.out.then E2
      obtain ⟨p0, p1, p2, p3, p4, p5, p6, p7, p8⟩ := box4 q1
      have hlo : (Tm.shortL l).length = l.length := by rw [Tm.shortL_map, List.length_map]
      obtain ⟨X0, hx0⟩ : ∃ x, (Tm.shortL l)[0]? = some x := ⟨_, List.getElem?_eq_getElem (by omega)⟩
      have hX0 : X0.hd6 := by
        rw [Tm.shortL_map, List.getElem?_map] at hx0
        obtain ⟨y, hy, rfl⟩ := Option.map_eq_some_iff.1 hx0
        exact Tm.shp_hd6 (Tm.shp_of_valid _ (hmv y (List.mem_of_getElem? hy)))
      have hg0 : (Tm.shortL l).getD 0 Tm.zero = X0 := by rw [List.getD_eq_getElem?_getD, hx0]; rfl
      rw [hg0] at ho
      obtain ⟨oa, oc, rfl, hoc, hocm⟩ := hT2.form
      obtain ⟨ob, oo, ocs, rfl, -, hR0, hcell0⟩ := hT2.get hx0
      have hTd := hT2.drop 1 (by omega)
      have hap := Lib.hid (fun W hW => term_Apply X0 ocs ((Tm.shortL l).drop 1) _ H2 W hR0 hTd hW hX0 (by rw [← ho.out]; exact HLEN.out))
      rw [← ho.out] at hap
      obtain ⟨ua, uc, rfl, -, -, -, -⟩ := hR0.open_
      have s0 := E2.agree.cell (hcell0 0 _ rfl)
      have s1 := E2.agree.cell (hcell0 1 _ rfl)
      have s2 := E2.agree.cell (hcell0 2 _ rfl)
      have s3 := E2.agree.cell (hcell0 3 _ rfl)
      simp only [Nat.add_zero, Nat.zero_mul, Nat.one_mul] at s0 s1 s2 s3 hap
      have hbo : ob < wr.heap.size := World.block_lt_of_cell? wr _ s0
      clear hx0 hg0 hcell0 hTd hT2 hR0 ho own
      rw [hlo] at hap hoc ⊢
      have e1 : (1 : Int) ≤ (oc : Int) := by omega
      have e2 : ¬ (oc = 1) := by omega
      have e3 : (1 : Int) ≤ (l.length : Int) := by omega
      have e4 : (0 : Int) < (l.length : Int) := by omega
      have e5 : 1 ≤ l.length := by omega
      have e6 : 0 < l.length := by omega
      subst hjl
      go_wp2_with fail
      go_still_tail 5, (by kernel_rfl)
      change wpList _ _ _ _ _ wr.drew
      go_wp2_with fail
      refine (hap.out _ E2.agree.drew).mono ?_
      rintro e w3 ⟨H3, cs3, rfl, X3, R3⟩
      have E3 := EF.drew.then X3
      have q3 := Below.blk (Below.trans ((Below.refl _ wr).drew) X3.below) q1
      have hn3 : H3 (w.heap.size + 1) = none := (X3.old _ p0).trans hn2
      obtain ⟨r0, r1, r2, r3, r4, r5, r6, r7, r8⟩ := box4 q3
      generalize hY : (Tm.mk 6 s n l).short = Y at R3
      have HY := Lib.hid hY
      clear hY p1 p2 p3 p4 p5 p6 p7 p8 s0 s1 s2 s3
      obtain ⟨ya, yc, rfl, -, -, -, -⟩ := R3.open_
      have E4 := E3.store4 hn3 (by omega) (.int .i64 Y.k) (.string Y.s) (.int .i64 Y.n) (.slice ya Y.l.length yc)
      go_wp2_with fail
      refine bodyPost_ret (v := .agg #[.int .i64 Y.k, .string Y.s, .int .i64 Y.n, .slice ya Y.l.length yc]) (by simp [results, Try.results61, go_sem, r1, r2, r3, r4]) rfl ?_
      refine ⟨H3, _, rfl, E4, ?_⟩
      rw [HY.out]
      exact R3
/-- eta.short. -/
theorem eta_short (t : Tm) : ∀ (cs : List Value) (H : GH) (w : World), Rep H t cs → Agree H w → t.valid = true → t.size ≤ SB →
    Calls Try.prog 61 #[.agg cs.toArray] w (ShortPost H w t) := by
  induction t using Tm.ind with
  | h k s n l ih =>
    intro cs H w hR hA hv hsz
    have hz := hsz
    rw [Tm.size_mk] at hz
    have hm : ∀ x ∈ l, ∀ (cs : List Value) (H : GH) (w : World), Rep H x cs → Agree H w → Calls Try.prog 61 #[.agg cs.toArray] w (ShortPost H w x) := fun x hx cs H w hR hA =>
      ih x hx cs H w hR hA (((Tm.valid_iff ..).1 hv).2 x hx) (by have := Tm.size_le_sizeL hx; omega)
    by_cases h5 : k = 5
    · subst h5
      obtain ⟨-, -, h1⟩ := Tm.ok1_lam.1 ((Tm.valid_iff ..).1 hv).1
      obtain ⟨x, rfl⟩ := List.length_eq_one_iff.1 h1
      exact short_lam s n x cs H w hR hA (((Tm.valid_iff ..).1 hv).2 x (by simp)) (by simp at hz; omega) (hm x (by simp))
    · by_cases h6 : k = 6
      · subst h6
        exact short_app s n l cs H w hR hA hv hsz hm
      · exact short_other _ cs H w hR hA h5 h6
end Go.Proofs.Ytbdappbmlnpogaa
