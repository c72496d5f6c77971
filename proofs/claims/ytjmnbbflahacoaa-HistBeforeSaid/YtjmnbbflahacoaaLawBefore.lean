/- HistBefore: the call, for whatever reads as its arguments, returns true. No condition. -/
import Derived.Test.YtjmnbbflahacoaaOpen
import Derived.Test.YtjmnbbflahacoaaWalkBefore
namespace Go.Proofs.Ytjmnbbflahacoaa.Hist
open Go.ChangeShapes Go.WideShapes Go.ChangeAt Go.RowKit Go.Proofs.Ytjmnbbflahacoaa.Kit Go.Proofs.YtjmnbbflahacoaaW.PrintWords
set_option linter.unusedVariables false

set_option maxRecDepth 100000 in
theorem walk_histBefore {H : Type} {enc : TypeId × Value → H} (W : World) (base : Nat) {v0 v1 : Value} {d0 d1 : DataW H} {p0 p1 : List MemPlace}
    (k0 : Value.okWide Try.prog W .any base 22 v0) (h0 : DataW.Trod enc Try.prog W 0 (fun _ => true) true 22 v0 d0 p0)
    (k1 : Value.okWide Try.prog W .any base 3 v1) (h1 : DataW.Trod enc Try.prog W 0 (fun _ => true) true 3 v1 d1 p1) :
    Calls Try.prog 5 #[v0, v1] W fun e W' => e = .returned (.bool true) ∧ Below W.heap.size W W' := by
  obtain ⟨A, c, l, rfl, hl, hC, _⟩ := open_evs k0 h0
  obtain ⟨a1, rfl, rfl, rfl, w1⟩ := open_int Try.underlying3 k1 h1
  exact histBefore_any W A c l a1 hC hl
end Go.Proofs.Ytjmnbbflahacoaa.Hist
