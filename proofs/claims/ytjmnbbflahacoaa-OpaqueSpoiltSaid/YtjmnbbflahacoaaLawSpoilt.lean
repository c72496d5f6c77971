/- OpaqueSpoilt: the call, for whatever reads as its arguments, returns true. No condition. -/
import Derived.Test.YtjmnbbflahacoaaOpensO
import Derived.Test.YtjmnbbflahacoaaWalkSpoilt
namespace Go.Proofs.Ytjmnbbflahacoaa.Opq
open Go.ChangeShapes Go.WideShapes Go.ChangeAt Go.RowKit Go.Proofs.Ytjmnbbflahacoaa.Kit Go.Proofs.Ytjmnbbflahacoaa.Hist Go.Proofs.Ytjmnbbflahacoaa.Model Go.Proofs.YtjmnbbflahacoaaW.PrintWords
set_option linter.unusedVariables false

theorem u8_bound {a : Int} (h : (Lit.int .u8 a).wf = true) : 0 ≤ a ∧ a ≤ 255 := by
  simp only [Lit.wf, Bool.and_eq_true, decide_eq_true_eq] at h
  exact ⟨h.1, h.2⟩
set_option maxRecDepth 100000 in
theorem walk_opaqueSpoilt {H : Type} {enc : TypeId × Value → H} (W : World) (base : Nat) {v0 v1 v2 v3 : Value} {d0 d1 d2 d3 : DataW H} {p0 p1 p2 p3 : List MemPlace}
    (k0 : Value.okWide Try.prog W .any base 47 v0) (h0 : DataW.Trod enc Try.prog W 0 (fun _ => true) true 47 v0 d0 p0)
    (k1 : Value.okWide Try.prog W .any base 22 v1) (h1 : DataW.Trod enc Try.prog W 0 (fun _ => true) true 22 v1 d1 p1)
    (k2 : Value.okWide Try.prog W .any base 5 v2) (h2 : DataW.Trod enc Try.prog W 0 (fun _ => true) true 5 v2 d2 p2)
    (k3 : Value.okWide Try.prog W .any base 2 v3) (h3 : DataW.Trod enc Try.prog W 0 (fun _ => true) true 2 v3 d3 p3) :
    Calls Try.prog 17 #[v0, v1, v2, v3] W fun e W' => e = .returned (.bool true) ∧ Below W.heap.size W W' := by
  obtain ⟨Av, cv, xs, rfl, _, hF⟩ := open_vals k0 h0
  obtain ⟨A, c, l, rfl, hl, hC, hok⟩ := open_evsO k1 h1
  obtain ⟨a1, rfl, rfl, rfl, w1⟩ := open_int Try.underlying5 k2 h2
  obtain ⟨a2, rfl, rfl, rfl, w2⟩ := open_int Try.underlying2 k3 h3
  exact opaqueSpoilt_any W Av cv xs A c l a1 a2 hF hC hl hok (u8_bound w1).1 (u8_bound w1).2
end Go.Proofs.Ytjmnbbflahacoaa.Opq
