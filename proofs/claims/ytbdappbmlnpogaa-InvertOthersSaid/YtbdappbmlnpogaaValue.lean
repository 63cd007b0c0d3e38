/- Package store in memory: value. -/
import Derived.Test.YtbdappbmlnpogaaBind
namespace Go.Proofs.Ytbdappbmlnpogaa
open Go Go.RowKit
set_option maxRecDepth 100000
def ValuePost (H : GH) (w : World) (S : St) (t : Tm) (e : Ending) (w' : World) : Prop := ∃ cs', e = .returned (.tuple #[.agg cs'.toArray, .bool (S.value t).2]) ∧ Pure H w H w' ∧ Rep H (S.value t).1 cs'
set_option maxHeartbeats 4000000 in
theorem store_value {F : Nat → Prop} (H : GH) (w : World) (s : Nat) (S : St) (t : Tm) (cs : List Value) (hA : Agree H w) (hS : StAt H w F s S) (hR : Rep H t cs) :
    Calls Try.prog 87 #[.pointer (some ⟨s, 0, none⟩), .agg cs.toArray] w (ValuePost H w S t) := by
  obtain ⟨a, cap, rfl, -, -, -, -⟩ := hR.open_
  obtain ⟨E0, B0, B1, hn⟩ := enter1 t a cap H w hA
  have E0 := Lib.hid E0
  have B0 := Lib.hid B0
  have B1 := Lib.hid B1
  have hn := Lib.hid hn
  have hinf := Lib.hid (store_Info H _ s S t.n (hS.pure E0.out))
  have hval := Lib.hid (show S.value t = ((S.info t.n).1.vl, (t.k == 4) && (S.info t.n).2 && (S.info t.n).1.bd) from rfl)
  generalize hI : S.info t.n = I at *
  obtain ⟨i, ok⟩ := I
  clear hI hR
  dsimp only at hval hinf
  go_enter Try.func87, Try.ntmps87
  go_wp2_with fail
  refine hinf.out.mono ?_
  rintro e w1 ⟨ics, rfl, hb1, hRI⟩
  have E1 := Lib.hid (E0.out.then_below hb1)
  obtain ⟨tcs, rfl, hR1, hlv⟩ := hRI
  have HR1 := Lib.hid hR1
  obtain ⟨ia, ic, rfl, -, -, -, -⟩ := hR1.open_
  have B2 := Lib.hid (Below.blk hb1 B0.out)
  have B3 := Lib.hid (Below.blk hb1 B1.out)
  obtain ⟨p0, p1, p2, p3, p4, p5, p6, p7, p8⟩ := box4 B2.out
  obtain ⟨q0, q1, q2, q3, q4, q5, q6, q7, q8⟩ := box4 B3.out
  clear hinf
  have hz : w.heap.size + 1 < w1.heap.size := q0
  have E2 := Lib.hid (((E1.out.store4 hn.out (by omega) (.int .i64 i.vl.k) (.string i.vl.s) (.int .i64 i.vl.n) (.slice ia i.vl.l.length ic)).alloc (ibox i ia ic)).drew)
  have fin : ∀ w', Pure H w H w' → ∀ b, ((t.k == 4) && ok && i.bd) = b → ValuePost H w S t (.returned (.tuple #[.agg #[.int .i64 i.vl.k, .string i.vl.s, .int .i64 i.vl.n, .slice ia i.vl.l.length ic], .bool b])) w' := by
    intro w' hp b hb
    unfold ValuePost
    rw [hval.out, hb]
    exact ⟨_, rfl, hp, HR1.out⟩
  have FIN := Lib.hid fin
  clear fin
  cases hk : (t.k == 4) with
  | false =>
    have hk' := Lib.hid hk
    go_wp2_with fail
    go_region
    go_wp2_with fail
    exact bodyPost_ret (v := .tuple #[.agg #[.int .i64 i.vl.k, .string i.vl.s, .int .i64 i.vl.n, .slice ia i.vl.l.length ic], .bool false]) (by simp [results, Try.results87, go_sem, q0, q1, q2, q3, q4]) rfl (FIN.out _ E2.out _ (by simp [hk'.out]))
  | true =>
    have hk' := Lib.hid hk
    cases ok with
    | false =>
      go_wp2_with fail
      go_region
      go_wp2_with fail
      exact bodyPost_ret (v := .tuple #[.agg #[.int .i64 i.vl.k, .string i.vl.s, .int .i64 i.vl.n, .slice ia i.vl.l.length ic], .bool false]) (by simp [results, Try.results87, go_sem, q0, q1, q2, q3, q4]) rfl (FIN.out _ E2.out _ (by simp [hk'.out]))
    | true =>
      go_wp2_with fail
      go_region
      go_wp2_with fail
      exact bodyPost_ret (v := .tuple #[.agg #[.int .i64 i.vl.k, .string i.vl.s, .int .i64 i.vl.n, .slice ia i.vl.l.length ic], .bool i.bd]) (by simp [results, Try.results87, go_sem, q0, q1, q2, q3, q4]) rfl (FIN.out _ E2.out _ (by simp [hk'.out]))
end Go.Proofs.Ytbdappbmlnpogaa
