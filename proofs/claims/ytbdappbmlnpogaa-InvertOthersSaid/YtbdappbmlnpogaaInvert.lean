/- Package invert: Invert. -/
import Derived.Test.YtbdappbmlnpogaaTermw
namespace Go.Proofs.Ytbdappbmlnpogaa
open Go Go.RowKit
set_option maxRecDepth 100000
theorem invert_term (vb s : Nat) (c : Ic) (la : Option Addr) (lc M : Nat) (hLl : ∀ u ∈ c.L, u.isLeaf = true) (hLn : c.L.length ≤ 1048576) (hcl : I64 c.lv) (hcx : I64 c.x) : ∀ m, TermAt vb s c la lc M m := by
  intro m
  induction m with
  | zero =>
    intro F H w S t cs k f e B hm hA hvb hH hvF hS hL hR ask hk0 hk1 hf
    exact invert_term_stop vb s c la lc 0 H w S t cs k f e hm hA hvb hH hvF hS hR (.inr (by omega))
  | succ m ih => exact invert_term_succ vb s c la lc M m hLl hLn hcl hcx ih
def InvertPost (F : Nat → Prop) (H : GH) (w : World) (s : Nat) (r : (Tm × Int × Int) × St) (e : Ending) (w' : World) : Prop :=
  ∃ H' cs', e = .returned (.tuple #[.agg cs'.toArray, .int .i64 r.1.2.1, .int .i64 r.1.2.2]) ∧ Ext F H w H' w' ∧ Rep H' r.1.1 cs' ∧ StAt H' w' (fun k => F k ∨ w.heap.size ≤ k) s r.2
theorem invert_arg {F : Nat → Prop} {H H' : GH} {w w' : World} {s : Nat} {S : St} {r : (Tm × Int × Int) × St} {G : Nat → Prop} (h : Ext F H w H' w') (hS : StAt H' w' G s S) (hG : ∀ k, G k → F k ∨ w.heap.size ≤ k) {er : Int} (hr : r = ((Tm.zero, 0, er), S)) : InvertPost F H w s r (.returned (.tuple #[.agg #[.int .i64 0, .string ⟨#[]⟩, .int .i64 0, .slice none 0 0], .int .i64 0, .int .i64 er])) w' := by
  subst hr
  exact ⟨H', _, rfl, h, rep_zero H', hS.mono hG⟩
theorem inv_far {W : World} {ub vb b : Nat} {x0 x1 x2 x3 y4 : Value} (h : W.cell? ⟨ub, 0, none⟩ = some x0 ∧ W.cell? ⟨ub, 1, none⟩ = some x1 ∧ W.cell? ⟨ub, 2, none⟩ = some x2 ∧ W.cell? ⟨ub, 3, none⟩ = some x3 ∧ W.cell? ⟨vb, 4, none⟩ = some y4) (h1 : ub ≠ b) (h2 : vb ≠ b) (u0 u1 u2 u3 : Value) :
    ((((W.setCell ⟨b, 0, none⟩ u0).setCell ⟨b, 1, none⟩ u1).setCell ⟨b, 2, none⟩ u2).setCell ⟨b, 3, none⟩ u3).cell? ⟨ub, 0, none⟩ = some x0 ∧ ((((W.setCell ⟨b, 0, none⟩ u0).setCell ⟨b, 1, none⟩ u1).setCell ⟨b, 2, none⟩ u2).setCell ⟨b, 3, none⟩ u3).cell? ⟨ub, 1, none⟩ = some x1 ∧ ((((W.setCell ⟨b, 0, none⟩ u0).setCell ⟨b, 1, none⟩ u1).setCell ⟨b, 2, none⟩ u2).setCell ⟨b, 3, none⟩ u3).cell? ⟨ub, 2, none⟩ = some x2 ∧ ((((W.setCell ⟨b, 0, none⟩ u0).setCell ⟨b, 1, none⟩ u1).setCell ⟨b, 2, none⟩ u2).setCell ⟨b, 3, none⟩ u3).cell? ⟨ub, 3, none⟩ = some x3 ∧ ((((W.setCell ⟨b, 0, none⟩ u0).setCell ⟨b, 1, none⟩ u1).setCell ⟨b, 2, none⟩ u2).setCell ⟨b, 3, none⟩ u3).cell? ⟨vb, 4, none⟩ = some y4 := by
  have e : ∀ k o, k ≠ b → ((((W.setCell ⟨b, 0, none⟩ u0).setCell ⟨b, 1, none⟩ u1).setCell ⟨b, 2, none⟩ u2).setCell ⟨b, 3, none⟩ u3).cell? ⟨k, o, none⟩ = W.cell? ⟨k, o, none⟩ := fun k o hk => by
    unfold World.cell?
    rw [blk_far4 _ _ _ _ hk]
  rw [e _ _ h1, e _ _ h1, e _ _ h1, e _ _ h1, e _ _ h2]
  exact h
set_option maxHeartbeats 16000000 in
theorem invert_Invert {F : Nat → Prop} (H : GH) (w : World) (s : Nat) (S : St) (M : Nat) (B : Int) (x : Int) (l : List Tm) (v : Value) (t : Tm) (cs : List Value) (f : Int) (hA : Agree H w) (hS : StAt H w F s S) (hx : I64 x) (hK : Tms H v l) (hk : l.length ≤ 1048576) (hR : Rep H t cs) (hf : I64 f)
    (hask : t.valid = true → Ask ⟨x, (S.info x).1.lv, l⟩ M ⟨S, f, 0⟩ t B) :
    Calls Try.prog 19 #[.pointer (some ⟨s, 0, none⟩), .int .i64 x, v, .agg cs.toArray, .int .i64 f] w (InvertPost F H w s (S.invert x l t f)) := by
  have HS := Lib.hid hS.tight
  obtain ⟨ka, kc, rfl, -, -⟩ := hK.form
  have hleaf := Lib.hid (fun W hW => containsFunc 41 #[] (by intro args w; go_simp) (fun t => !t.isLeaf) H W (.slice ka l.length kc) l hK hW (fun t _ cs' w' hw' hR' => invert_Invert1 t cs' H w' hR' (hW.below hw')))
  have hodd := Lib.hid (fun W hW => invert_odd t cs H W hR hW)
  have hsp : Hid (S.invert x l t f = _) := Lib.hid (by unfold St.invert; rfl)
  have HR := Lib.hid hR
  obtain ⟨a, cap, rfl, -, -, -, -⟩ := hR.open_
  obtain ⟨E0, B0, B1, hn1⟩ := enter1 t a cap H w hA
  have hinf := Lib.hid (store_Info H _ s S x (HS.out.pure E0))
  have E0 := Lib.hid E0
  have B0 := Lib.hid B0
  have B1 := Lib.hid B1
  have HA := Lib.hid hask
  have HK := Lib.hid hK
  generalize hI : S.info x = I at *
  obtain ⟨i, ok⟩ := I
  dsimp only at hsp HA
  clear hS hK hR hask hI
  go_enter Try.func19, Try.ntmps19
  go_wp2_with fail
  generalize hW0 : (w.alloc (tbox t a cap)).alloc zbox = W0 at *
  clear hW0
  refine hinf.out.mono ?_
  rintro e w1 ⟨ics, rfl, hb1, hRI⟩
  obtain ⟨tcs, rfl, hR1, hlv⟩ := hRI
  obtain ⟨ia, ic, rfl, -, -, -, -⟩ := hR1.open_
  have E1 := Lib.hid (E0.out.then_below hb1)
  have C0 := Lib.hid (Below.blk (below_alloc w1 (.cells #[.int .i64 i.lv, .bool i.bd, .int .i64 i.vl.k, .string i.vl.s, .int .i64 i.vl.n, .slice ia i.vl.l.length ic] 37 (0, 0))) (Below.blk hb1 B0.out))
  have C1 := Lib.hid (Below.blk (below_alloc w1 (.cells #[.int .i64 i.lv, .bool i.bd, .int .i64 i.vl.k, .string i.vl.s, .int .i64 i.vl.n, .slice ia i.vl.l.length ic] 37 (0, 0))) (Below.blk hb1 B1.out))
  have CI := Lib.hid (heap_alloc_new w1 (.cells #[.int .i64 i.lv, .bool i.bd, .int .i64 i.vl.k, .string i.vl.s, .int .i64 i.vl.n, .slice ia i.vl.l.length ic] 37 (0, 0)))
  have E2 := Lib.hid (E1.out.alloc (.cells #[.int .i64 i.lv, .bool i.bd, .int .i64 i.vl.k, .string i.vl.s, .int .i64 i.vl.n, .slice ia i.vl.l.length ic] 37 (0, 0)))
  clear hinf hR1 hb1
  have stop : Hid (∀ w' (X : Pure H w H w') (hB : w'.heap[w.heap.size + 1]? = some zbox) (hc : ok = false ∨ i.bd = true ∨ t.valid = false ∨ l.any (fun u => !u.isLeaf) = true), InvertPost F H w s (S.invert x l t f) (.returned (.tuple #[.agg #[.int .i64 0, .string ⟨#[]⟩, .int .i64 0, .slice none 0 0], .int .i64 0, .int .i64 1])) ((((w'.setCell ⟨w.heap.size + 1, 0, none⟩ (.int .i64 0)).setCell ⟨w.heap.size + 1, 1, none⟩ (.string ⟨#[]⟩)).setCell ⟨w.heap.size + 1, 2, none⟩ (.int .i64 0)).setCell ⟨w.heap.size + 1, 3, none⟩ (.slice none 0 0))) := Lib.hid (fun w' X hB hc => by
    have X2 := X.store4 hn1 (Nat.le_succ _) (.int .i64 0) (.string ⟨#[]⟩) (.int .i64 0) (.slice none 0 0)
    exact invert_arg (X2.mono (fun _ h => h.elim)) (HS.out.pure X2) (fun k hk => .inl hk.1) (by rw [hsp.out, if_pos hc]))
  cases ok with
  | false =>
    obtain ⟨q0, q1, q2, q3, q4, q5, q6, q7, q8⟩ := box4 C1.out
    go_wp2_with fail
    refine bodyPost_ret (v := .tuple #[.agg #[.int .i64 0, .string ⟨#[]⟩, .int .i64 0, .slice none 0 0], .int .i64 0, .int .i64 1]) (by simp [results, Try.results19, go_sem, q0, q1, q2, q3, q4]) rfl ?_
    exact stop.out _ E2.out C1.out (by simp)
  | true =>
    cases hbd : i.bd with
    | true =>
      have hbd' := Lib.hid hbd
      rw [hbd] at C1 CI E2
      obtain ⟨q0, q1, q2, q3, q4, q5, q6, q7, q8⟩ := box4 C1.out
      go_wp2_with fail
      refine bodyPost_ret (v := .tuple #[.agg #[.int .i64 0, .string ⟨#[]⟩, .int .i64 0, .slice none 0 0], .int .i64 0, .int .i64 1]) (by simp [results, Try.results19, go_sem, q0, q1, q2, q3, q4]) rfl ?_
      exact stop.out _ E2.out C1.out (by simp [hbd'.out])
    | false =>
      have hbd' := Lib.hid hbd
      rw [hbd] at C0 C1 CI E2
      clear hbd
      obtain ⟨p0, p1, p2, p3, p4, p5, p6, p7, p8⟩ := box4 C0.out
      obtain ⟨v0, v1, v2, v3, v4, v5, v6⟩ := box6 CI.out
      go_wp2_with fail
      refine (hodd.out _ E2.out.agree).mono ?_
      rintro e w2 ⟨rfl, hb2⟩
      have E3 := Lib.hid (E2.out.then_below hb2)
      have D0 := Lib.hid (Below.blk hb2 C0.out)
      have D1 := Lib.hid (Below.blk hb2 C1.out)
      have DI := Lib.hid (Below.blk hb2 CI.out)
      clear hodd hb2 C0 C1 CI E2 p0 p1 p2 p3 p4 p5 p6 p7 p8 v0 v1 v2 v3 v4 v5 v6
      cases hv : t.valid with
      | false =>
        have HV := Lib.hid hv
        clear hv
        obtain ⟨q0, q1, q2, q3, q4, q5, q6, q7, q8⟩ := box4 D1.out
        go_wp2_with fail
        refine bodyPost_ret (v := .tuple #[.agg #[.int .i64 0, .string ⟨#[]⟩, .int .i64 0, .slice none 0 0], .int .i64 0, .int .i64 1]) (by simp [results, Try.results19, go_sem, q0, q1, q2, q3, q4]) rfl ?_
        exact stop.out _ E3.out D1.out (by simp [HV.out])
      | true =>
        have HV := Lib.hid hv
        clear hv
        go_wp2_with fail
        refine (hleaf.out _ E3.out.agree).mono ?_
        rintro e w3 ⟨rfl, hb3⟩
        have E4 := Lib.hid (E3.out.then_below hb3)
        have G0 := Lib.hid (Below.blk hb3 D0.out)
        have G1 := Lib.hid (Below.blk hb3 D1.out)
        have GI := Lib.hid (Below.blk hb3 DI.out)
        clear hleaf hb3 D0 D1 DI E3
        cases hlf : l.any (fun u => !u.isLeaf) with
        | true =>
          have HLF := Lib.hid hlf
          clear hlf
          obtain ⟨q0, q1, q2, q3, q4, q5, q6, q7, q8⟩ := box4 G1.out
          go_wp2_with fail
          refine bodyPost_ret (v := .tuple #[.agg #[.int .i64 0, .string ⟨#[]⟩, .int .i64 0, .slice none 0 0], .int .i64 0, .int .i64 1]) (by simp [results, Try.results19, go_sem, q0, q1, q2, q3, q4]) rfl ?_
          exact stop.out _ E4.out G1.out (by simp [HLF.out])
        | false =>
          have hsp2 : Hid (S.invert x l t f = if (Ic.termF ⟨x, i.lv, l⟩ f.toNat ⟨S, f, 0⟩ t 0).2.e ≠ 0 then ((Tm.zero, 0, (Ic.termF ⟨x, i.lv, l⟩ f.toNat ⟨S, f, 0⟩ t 0).2.e), (Ic.termF ⟨x, i.lv, l⟩ f.toNat ⟨S, f, 0⟩ t 0).2.S) else ((Tm.lams l.length (Ic.termF ⟨x, i.lv, l⟩ f.toNat ⟨S, f, 0⟩ t 0).1, (Ic.termF ⟨x, i.lv, l⟩ f.toNat ⟨S, f, 0⟩ t 0).2.f, 0), (Ic.termF ⟨x, i.lv, l⟩ f.toNat ⟨S, f, 0⟩ t 0).2.S)) := Lib.hid (by
            rw [hsp.out, if_neg (by rw [HV.out, hbd'.out, hlf]; simp)])
          have hll : ∀ u ∈ l, u.isLeaf = true := fun u hu => by
            have := List.any_eq_false.1 hlf u hu
            simpa using this
          clear hlf hsp stop
          have ask := HA.out HV.out
          have E5 := Lib.hid (E4.out.alloc (ivbox s ⟨x, i.lv, l⟩ ka kc f 0))
          have BV := Lib.hid (heap_alloc_new w3 (ivbox s ⟨x, i.lv, l⟩ ka kc f 0))
          have K0 := Lib.hid (Below.blk (below_alloc w3 (ivbox s ⟨x, i.lv, l⟩ ka kc f 0)) G0.out)
          have K1 := Lib.hid (Below.blk (below_alloc w3 (ivbox s ⟨x, i.lv, l⟩ ka kc f 0)) G1.out)
          have hz1 : w.heap.size + 1 < w3.heap.size := cell_lt G1.out
          have hvn : H w3.heap.size = none := hA.free (by omega)
          have hD : f ≤ 1048576 := ask.hD
          have hterm := Lib.hid (invert_term w3.heap.size s ⟨x, i.lv, l⟩ ka kc M hll hk hlv hx f.toNat (fun k => F k ∧ k < w.heap.size) H _ S t _ 0 f 0 B (Nat.le_refl _) E5.out.agree BV.out hvn (fun h => by have := h.2; omega) (HS.out.pure E5.out) HK.out HR.out ask (Int.le_refl _) (by omega) hf)
          have HZ1 := Lib.hid hz1
          obtain ⟨v0, v1, v2, v3, v4, v5, v6⟩ := box6 GI.out
          obtain ⟨p0, p1, p2, p3, p4, p5, p6, p7, p8⟩ := box4 K0.out
          clear hll ask hD hz1 p5 p6 p7 p8
          generalize hq : Ic.termF ⟨x, i.lv, l⟩ f.toNat ⟨S, f, 0⟩ t 0 = q at *
          obtain ⟨qt, qS, qf, qe⟩ := q
          dsimp only at hsp2
          clear hq
          go_wp2_with fail
          refine hterm.out.mono ?_
          unfold FlexPost
          rintro e w5 ⟨H5, cs5, rfl, X5, R5, BV5, ST5⟩
          dsimp only at R5 BV5 ST5
          have hz := HZ1.out
          have hz5 := X5.size
          have hws : (w3.alloc (ivbox s ⟨x, i.lv, l⟩ ka kc f 0)).heap.size = w3.heap.size + 1 := by simp
          have M1 := Lib.hid ((X5.block (w.heap.size + 1) (cell_lt K1.out) (fun h => h.elim (fun h => by omega) (fun h => by have := h.2; omega))).trans K1.out)
          have n1 : H5 (w.heap.size + 1) = none := (X5.old _ (cell_lt K1.out)).trans hn1
          have HR5 := Lib.hid R5
          have E6 := Lib.hid ((E5.out.mono (O' := F) (fun _ h => h.elim)).trans X5 (fun k hk hlt => hk.elim (fun h => absurd h (by omega)) (fun h => h.1)))
          have HBV5 := Lib.hid BV5
          have HST5 := Lib.hid ST5
          obtain ⟨xa, xc, rfl, -, -, -, -⟩ := R5.open_
          have E7 := Lib.hid (E6.out.alloc (tbox qt xa xc))
          have M2 := Lib.hid (Below.blk (below_alloc w5 (tbox qt xa xc)) M1.out)
          have M3 := Lib.hid (heap_alloc_new w5 (tbox qt xa xc))
          have BV6 := Lib.hid (Below.blk (below_alloc w5 (tbox qt xa xc)) HBV5.out)
          have ST6 := Lib.hid (HST5.out.below E6.out.agree (below_alloc w5 (tbox qt xa xc)))
          have HGG : Hid (∀ k, (F k ∧ k < w.heap.size) ∨ (w3.alloc (ivbox s ⟨x, i.lv, l⟩ ka kc f 0)).heap.size ≤ k → F k ∨ w.heap.size ≤ k) := Lib.hid (fun k hk => hk.elim (fun h => .inl h.1) (fun h => .inr (by omega)))
          have HNG : Hid (¬ ((F (w.heap.size + 1) ∧ w.heap.size + 1 < w.heap.size) ∨ (w3.alloc (ivbox s ⟨x, i.lv, l⟩ ka kc f 0)).heap.size ≤ w.heap.size + 1)) := Lib.hid (fun h => h.elim (fun h => by have := h.2; omega) (fun h => by omega))
          have HNV : Hid (w3.heap.size ≠ w.heap.size + 1 ∧ w5.heap.size ≠ w.heap.size + 1 ∧ w3.heap.size < w5.heap.size) := Lib.hid (by omega)
          clear X5 R5 BV5 ST5 hterm v0 v1 v2 v3 v4 v5 v6 p0 p1 p2 p3 p4 hws hz hz5
          obtain ⟨y0, y1, y2, y3, y4, y5, y6⟩ := box6 HBV5.out
          have hnv3 := HNV.out.2.2
          have hnv4 : w3.heap.size ≠ w5.heap.size := by omega
          by_cases he : qe = 0
          · subst he
            rw [if_neg (by simp)] at hsp2
            have K1' : (w5.alloc (tbox qt xa xc)).drew.cell? ⟨w5.heap.size, 0, none⟩ = some (.int .i64 qt.k) ∧ (w5.alloc (tbox qt xa xc)).drew.cell? ⟨w5.heap.size, 1, none⟩ = some (.string qt.s) ∧ (w5.alloc (tbox qt xa xc)).drew.cell? ⟨w5.heap.size, 2, none⟩ = some (.int .i64 qt.n) ∧ (w5.alloc (tbox qt xa xc)).drew.cell? ⟨w5.heap.size, 3, none⟩ = some (.slice xa qt.l.length xc) ∧ (w5.alloc (tbox qt xa xc)).drew.cell? ⟨w3.heap.size, 4, none⟩ = some (.int .i64 qf) :=
              ⟨(box4 (w := (w5.alloc (tbox qt xa xc)).drew) M3.out).2.1, (box4 (w := (w5.alloc (tbox qt xa xc)).drew) M3.out).2.2.1, (box4 (w := (w5.alloc (tbox qt xa xc)).drew) M3.out).2.2.2.1, (box4 (w := (w5.alloc (tbox qt xa xc)).drew) M3.out).2.2.2.2.1, (iv04 (W := (w5.alloc (tbox qt xa xc)).drew) BV6.out).2⟩
            have N1 := HNV.out.2.1
            have N2 := HNV.out.1
            obtain ⟨v0, v1, v2, v3, v4, v5, v6⟩ := box6 BV6.out
            have hlm := Lib.hid (term_Lams l.length qt _ H5 _ (by unfold LB; omega) E7.out.drew.agree HR5.out)
            go_wp2_with fail
            generalize hW7 : w5.alloc (tbox qt xa xc) = W7 at *
            clear hW7 v0 v1 v2 v3 v4 v5 v6
            go_region_held3 (fun w' => w'.cell? ⟨w5.heap.size, 0, none⟩ = some (.int .i64 qt.k) ∧ w'.cell? ⟨w5.heap.size, 1, none⟩ = some (.string qt.s) ∧ w'.cell? ⟨w5.heap.size, 2, none⟩ = some (.int .i64 qt.n) ∧ w'.cell? ⟨w5.heap.size, 3, none⟩ = some (.slice xa qt.l.length xc) ∧ w'.cell? ⟨w3.heap.size, 4, none⟩ = some (.int .i64 qf)) (with_reducible (first | exact K1' | exact KJ | exact inv_far KJ N1 N2 _ _ _ _)) (first | (go_at_call 21; ((with_reducible refine hlm.out.mono ?_); rintro e w8 ⟨H8, cs8, rfl, X8, R8⟩; have BV8 := Below.blk X8.below BV6.out; have M8 := Below.blk X8.below M3.out; have KJ : w8.cell? ⟨w5.heap.size, 0, none⟩ = some (.int .i64 qt.k) ∧ w8.cell? ⟨w5.heap.size, 1, none⟩ = some (.string qt.s) ∧ w8.cell? ⟨w5.heap.size, 2, none⟩ = some (.int .i64 qt.n) ∧ w8.cell? ⟨w5.heap.size, 3, none⟩ = some (.slice xa qt.l.length xc) ∧ w8.cell? ⟨w3.heap.size, 4, none⟩ = some (.int .i64 qf) := ⟨(box4 M8).2.1, (box4 M8).2.2.1, (box4 M8).2.2.2.1, (box4 M8).2.2.2.2.1, (iv04 BV8).2⟩; have HR8 := Lib.hid R8; obtain ⟨ya, yc, rfl, -, -, -, -⟩ := R8.open_; have B8 := Below.blk X8.below M2.out; obtain ⟨q0, q1, q2, q3, q4, q5, q6, q7, q8⟩ := box4 B8)))
            have n8 : H8 (w.heap.size + 1) = none := (X8.old _ (cell_lt M2.out)).trans n1
            have E8 := Lib.hid (E7.out.drew.then X8)
            have ST8 := Lib.hid ((ST6.out.below E7.out.agree (Below.refl _ _).drew).pure X8)
            generalize hY : Tm.lams l.length qt = Y at *
            clear hY R8 X8
            go_wp2_with fail
            refine bodyPost_ret (v := .tuple #[.agg #[.int .i64 Y.k, .string Y.s, .int .i64 Y.n, .slice ya Y.l.length yc], .int .i64 qf, .int .i64 0]) (by simp [results, Try.results19, go_sem, q0, q1, q2, q3, q4]) rfl ?_
            have T2 : Ext (fun k => k = w.heap.size + 1) H8 w8 H8 ((((w8.setCell ⟨w.heap.size + 1, 0, none⟩ (.int .i64 Y.k)).setCell ⟨w.heap.size + 1, 1, none⟩ (.string Y.s)).setCell ⟨w.heap.size + 1, 2, none⟩ (.int .i64 Y.n)).setCell ⟨w.heap.size + 1, 3, none⟩ (.slice ya Y.l.length yc)) :=
              ((((Ext.refl (O := fun k => k = w.heap.size + 1) E8.out.agree).setCell (p := ⟨w.heap.size + 1, 0, none⟩) n8 (fun _ => rfl) _).setCell (p := ⟨w.heap.size + 1, 1, none⟩) n8 (fun _ => rfl) _).setCell (p := ⟨w.heap.size + 1, 2, none⟩) n8 (fun _ => rfl) _).setCell (p := ⟨w.heap.size + 1, 3, none⟩) n8 (fun _ => rfl) _
            unfold InvertPost
            rw [hsp2.out]
            exact ⟨H8, _, rfl, E8.out.store4 n8 (Nat.le_succ _) _ _ _ _, HR8.out, (ST8.out.ext T2 (fun k hk hF => by subst hk; exact HNG.out hF)).mono HGG.out⟩
          · have he' : (qe == 0) = false := beq_eq_false_iff_ne.2 he
            rw [if_pos he] at hsp2
            obtain ⟨v0, v1, v2, v3, v4, v5, v6⟩ := box6 BV6.out
            obtain ⟨q0, q1, q2, q3, q4, q5, q6, q7, q8⟩ := box4 M2.out
            have hnv := HNV.out.1
            go_wp2_with fail
            generalize hW7 : w5.alloc (tbox qt xa xc) = W7 at *
            go_region
            go_wp2_with fail
            refine bodyPost_ret (v := .tuple #[.agg #[.int .i64 0, .string ⟨#[]⟩, .int .i64 0, .slice none 0 0], .int .i64 0, .int .i64 qe]) (by simp [results, Try.results19, go_sem, q0, q1, q2, q3, q4]) rfl ?_
            have T := (Ext.refl (O := fun _ => False) E7.out.agree)
            have T2 : Ext (fun k => k = w.heap.size + 1) H5 W7 H5 ((((W7.setCell ⟨w.heap.size + 1, 0, none⟩ (.int .i64 0)).setCell ⟨w.heap.size + 1, 1, none⟩ (.string ⟨#[]⟩)).setCell ⟨w.heap.size + 1, 2, none⟩ (.int .i64 0)).setCell ⟨w.heap.size + 1, 3, none⟩ (.slice none 0 0)) :=
              ((((Ext.refl (O := fun k => k = w.heap.size + 1) E7.out.agree).setCell (p := ⟨w.heap.size + 1, 0, none⟩) n1 (fun _ => rfl) _).setCell (p := ⟨w.heap.size + 1, 1, none⟩) n1 (fun _ => rfl) _).setCell (p := ⟨w.heap.size + 1, 2, none⟩) n1 (fun _ => rfl) _).setCell (p := ⟨w.heap.size + 1, 3, none⟩) n1 (fun _ => rfl) _
            exact invert_arg (E7.out.store4 n1 (Nat.le_succ _) _ _ _ _).drew ((ST6.out.ext T2 (fun k hk hF => by subst hk; exact HNG.out hF)).below T2.agree (Below.refl _ _).drew) HGG.out hsp2.out
end Go.Proofs.Ytbdappbmlnpogaa
