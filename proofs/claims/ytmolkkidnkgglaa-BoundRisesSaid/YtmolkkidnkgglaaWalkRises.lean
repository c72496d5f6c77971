/- BoundRises: the call, of whatever three whole numbers, returns true. No condition. -/
import Derived.Test.YtmolkkidnkgglaaKit
import Derived.Test.YtmolkkidnkgglaaBPure
namespace Go.Proofs.Ytmolkkidnkgglaa.Kit
open Go.ChangeShapes Go.WideShapes Go.ChangeAt Go.RowKit Go.Proofs.YtmolkkidnkgglaaW.PrintWords Go.Proofs.YtmolkkidnkgglaaW.PrintLast Go.Proofs.Ytmolkkidnkgglaa.PBoundTells Go.Proofs.Ytmolkkidnkgglaa.BPure
set_option linter.unusedVariables false

theorem solo_any (a w : Int) (W : World) : Calls Try.prog 7 #[.int .i64 a, .int .i64 w] W fun e W' => e = .returned (.int .i64 (soloN a w)) ∧ Below W.heap.size W W' :=
  bound_Solo.calls 6 a w _ W (solo_eq 0 a w)
theorem need_any (a : Int) (W : World) : Calls Try.prog 8 #[.int .i64 a] W fun e W' => e = .returned (.int .i64 (needN a)) ∧ Below W.heap.size W W' :=
  bound_Need.calls 6 a _ W (need_eq 0 a)
theorem whole_any (n a f : Int) (W : World) : Calls Try.prog 9 #[.int .i64 n, .int .i64 a, .int .i64 f] W fun e W' => e = .returned (.int .i64 (wholeN n a f)) ∧ Below W.heap.size W W' :=
  bound_Whole.calls 6 n a f _ W (whole_eq 0 n a f)
theorem alive_any (W : World) : Calls Try.prog 6 #[] W fun e W' => e = .returned (.bool true) ∧ Below W.heap.size W W' :=
  quarrellaw23_alive.calls 6 true W (alive_eq 0)

theorem below_next {B : Nat} {w w1 w2 : World} (h : Aside0 (Below B w w1)) (hB : Aside0 (B ≤ w1.heap.size)) (k : Below w1.heap.size w1 w2) : Aside0 (Below B w w2) ∧ Aside0 (B ≤ w2.heap.size) :=
  ⟨⟨h.out.trans (k.mono hB.out)⟩, ⟨Nat.le_trans hB.out k.size⟩⟩

set_option maxHeartbeats 800000 in
set_option maxRecDepth 100000 in
theorem rises_main (n a f : Int) (w : World) (c0 : decide (1099511627776 < n) = false) (c1 : decide (1099511627776 < a) = false) (c2 : decide (1099511627776 < f) = false)
    (t0 : decide (soloN (wrap64 (a + 1)) f < soloN a f) = false) (t1 : decide (soloN a (wrap64 (f + 1)) < soloN a f) = false) (t2 : decide (needN (wrap64 (a + 1)) < needN a) = false)
    (t3 : decide (wholeN (wrap64 (n + 1)) a f < wholeN n a f) = false) (t4 : decide (wholeN n (wrap64 (a + 1)) f < wholeN n a f) = false) (t5 : decide (wholeN n a (wrap64 (f + 1)) < wholeN n a f) = false)
    (u0 : decide (100 ≤ soloN a f) = true) (u1 : decide (6 ≤ needN a) = true) (u2 : decide (soloN a f ≤ soloN 8 64) = true) (u3 : decide (needN a ≤ needN 8) = true) (u4 : decide (wholeN n a f ≤ wholeN 6 8 64) = true) :
    Calls Try.prog 3 #[.int .i64 n, .int .i64 a, .int .i64 f] w fun e w' => e = .returned (.bool true) ∧ Below w.heap.size w w' := by
  have HB := Aside0.mk (Below.refl w.heap.size w)
  have HZ := Aside0.mk (Nat.le_refl w.heap.size)
  go_enter Try.func3, Try.ntmps3
  go_wp2_with (first
    | (go_at_call 6; ((with_reducible refine (alive_any _).mono ?_); rintro e w' ⟨rfl, hb⟩; have hh := below_next HB HZ hb; clear HB HZ hb; obtain ⟨HB, HZ⟩ := hh))
    | (go_at_call 7; ((with_reducible refine (solo_any _ _ _).mono ?_); rintro e w' ⟨rfl, hb⟩; have hh := below_next HB HZ hb; clear HB HZ hb; obtain ⟨HB, HZ⟩ := hh))
    | (go_at_call 8; ((with_reducible refine (need_any _ _).mono ?_); rintro e w' ⟨rfl, hb⟩; have hh := below_next HB HZ hb; clear HB HZ hb; obtain ⟨HB, HZ⟩ := hh))
    | (go_at_call 9; ((with_reducible refine (whole_any _ _ _ _).mono ?_); rintro e w' ⟨rfl, hb⟩; have hh := below_next HB HZ hb; clear HB HZ hb; obtain ⟨HB, HZ⟩ := hh)))
  go_ret
  exact ⟨rfl, HB.out⟩

set_option maxHeartbeats 800000 in
set_option maxRecDepth 100000 in
theorem rises_n (n a f : Int) (w : World) (c0 : decide (1099511627776 < n) = true) :
    Calls Try.prog 3 #[.int .i64 n, .int .i64 a, .int .i64 f] w fun e w' => e = .returned (.bool true) ∧ Below w.heap.size w w' := by
  have HB := Aside0.mk (Below.refl w.heap.size w)
  have HZ := Aside0.mk (Nat.le_refl w.heap.size)
  go_enter Try.func3, Try.ntmps3
  go_wp2_with (first
    | (go_at_call 6; ((with_reducible refine (alive_any _).mono ?_); rintro e w' ⟨rfl, hb⟩; have hh := below_next HB HZ hb; clear HB HZ hb; obtain ⟨HB, HZ⟩ := hh)))
  go_ret
  exact ⟨rfl, HB.out⟩

set_option maxHeartbeats 800000 in
set_option maxRecDepth 100000 in
theorem rises_a (n a f : Int) (w : World) (c0 : decide (1099511627776 < n) = false) (c1 : decide (1099511627776 < a) = true) :
    Calls Try.prog 3 #[.int .i64 n, .int .i64 a, .int .i64 f] w fun e w' => e = .returned (.bool true) ∧ Below w.heap.size w w' := by
  have HB := Aside0.mk (Below.refl w.heap.size w)
  have HZ := Aside0.mk (Nat.le_refl w.heap.size)
  go_enter Try.func3, Try.ntmps3
  go_wp2_with (first
    | (go_at_call 6; ((with_reducible refine (alive_any _).mono ?_); rintro e w' ⟨rfl, hb⟩; have hh := below_next HB HZ hb; clear HB HZ hb; obtain ⟨HB, HZ⟩ := hh)))
  go_ret
  exact ⟨rfl, HB.out⟩

set_option maxHeartbeats 800000 in
set_option maxRecDepth 100000 in
theorem rises_f (n a f : Int) (w : World) (c0 : decide (1099511627776 < n) = false) (c1 : decide (1099511627776 < a) = false) (c2 : decide (1099511627776 < f) = true) :
    Calls Try.prog 3 #[.int .i64 n, .int .i64 a, .int .i64 f] w fun e w' => e = .returned (.bool true) ∧ Below w.heap.size w w' := by
  have HB := Aside0.mk (Below.refl w.heap.size w)
  have HZ := Aside0.mk (Nat.le_refl w.heap.size)
  go_enter Try.func3, Try.ntmps3
  go_wp2_with (first
    | (go_at_call 6; ((with_reducible refine (alive_any _).mono ?_); rintro e w' ⟨rfl, hb⟩; have hh := below_next HB HZ hb; clear HB HZ hb; obtain ⟨HB, HZ⟩ := hh)))
  go_ret
  exact ⟨rfl, HB.out⟩

theorem walk_rises {H : Type} {enc : TypeId × Value → H} (W : World) (base : Nat) {v0 v1 v2 : Value} {d0 d1 d2 : DataW H} {p0 p1 p2 : List MemPlace}
    (k0 : Value.okWide Try.prog W .any base 3 v0) (h0 : DataW.Trod enc Try.prog W 0 (fun _ => true) true 3 v0 d0 p0)
    (k1 : Value.okWide Try.prog W .any base 3 v1) (h1 : DataW.Trod enc Try.prog W 0 (fun _ => true) true 3 v1 d1 p1)
    (k2 : Value.okWide Try.prog W .any base 3 v2) (h2 : DataW.Trod enc Try.prog W 0 (fun _ => true) true 3 v2 d2 p2) :
    Calls Try.prog 3 #[v0, v1, v2] W fun e W' => e = .returned (.bool true) ∧ Below W.heap.size W W' := by
  obtain ⟨n, rfl, rfl, rfl, w0⟩ := open_int Try.underlying3 k0 h0
  obtain ⟨a, rfl, rfl, rfl, w1⟩ := open_int Try.underlying3 k1 h1
  obtain ⟨f, rfl, rfl, rfl, w2⟩ := open_int Try.underlying3 k2 h2
  by_cases c0 : 1099511627776 < n
  · exact rises_n n a f W (decide_eq_true c0)
  by_cases c1 : 1099511627776 < a
  · exact rises_a n a f W (decide_eq_false c0) (decide_eq_true c1)
  by_cases c2 : 1099511627776 < f
  · exact rises_f n a f W (decide_eq_false c0) (decide_eq_false c1) (decide_eq_true c2)
  have l0 : -9223372036854775808 ≤ n := by have := w0; simp [Lit.wf, IntKind.min, IntKind.max, IntKind.signed, IntKind.bits] at this; omega
  have l1 : -9223372036854775808 ≤ a := by have := w1; simp [Lit.wf, IntKind.min, IntKind.max, IntKind.signed, IntKind.bits] at this; omega
  have l2 : -9223372036854775808 ≤ f := by have := w2; simp [Lit.wf, IntKind.min, IntKind.max, IntKind.signed, IntKind.bits] at this; omega
  have e0 : wrap64 (n + 1) = n + 1 := BPure.wrap_small (by omega) (by omega)
  have e1 : wrap64 (a + 1) = a + 1 := BPure.wrap_small (by omega) (by omega)
  have e2 : wrap64 (f + 1) = f + 1 := BPure.wrap_small (by omega) (by omega)
  refine rises_main n a f W (decide_eq_false c0) (decide_eq_false c1) (decide_eq_false c2) ?_ ?_ ?_ ?_ ?_ ?_
    (decide_eq_true (solo_low a f)) (decide_eq_true (need_low a)) (decide_eq_true (solo_top a f)) (decide_eq_true (need_top a)) (decide_eq_true (whole_top n a f))
  · rw [e1]; exact decide_eq_false (by have := solo_mono (a := a) (b := a + 1) (w := f) (v := f) (by omega) (by omega); omega)
  · rw [e2]; exact decide_eq_false (by have := solo_mono (a := a) (b := a) (w := f) (v := f + 1) (by omega) (by omega); omega)
  · rw [e1]; exact decide_eq_false (by have := need_mono (a := a) (b := a + 1) (by omega); omega)
  · rw [e0]; exact decide_eq_false (by have := whole_mono (n := n) (m := n + 1) (a := a) (b := a) (f := f) (g := f) (by omega) (by omega) (by omega); omega)
  · rw [e1]; exact decide_eq_false (by have := whole_mono (n := n) (m := n) (a := a) (b := a + 1) (f := f) (g := f) (by omega) (by omega) (by omega); omega)
  · rw [e2]; exact decide_eq_false (by have := whole_mono (n := n) (m := n) (a := a) (b := a) (f := f) (g := f + 1) (by omega) (by omega) (by omega); omega)
end Go.Proofs.Ytmolkkidnkgglaa.Kit
