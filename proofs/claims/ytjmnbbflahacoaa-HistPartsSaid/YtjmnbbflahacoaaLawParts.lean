/- HistParts: the call, for whatever reads as its argument, returns true. No condition. -/
import Derived.Test.YtjmnbbflahacoaaOpen
import Derived.Test.YtjmnbbflahacoaaWalkParts
namespace Go.Proofs.Ytjmnbbflahacoaa.Hist
open Go.ChangeShapes Go.WideShapes Go.ChangeAt Go.RowKit Go.Proofs.Ytjmnbbflahacoaa.Kit Go.Proofs.YtjmnbbflahacoaaW.PrintWords
set_option linter.unusedVariables false

set_option maxRecDepth 100000 in
theorem walk_histParts {H : Type} {enc : TypeId × Value → H} (W : World) (base : Nat) {v0 : Value} {d0 : DataW H} {p0 : List MemPlace}
    (k0 : Value.okWide Try.prog W .any base 22 v0) (h0 : DataW.Trod enc Try.prog W 0 (fun _ => true) true 22 v0 d0 p0) :
    Calls Try.prog 4 #[v0] W fun e W' => e = .returned (.bool true) ∧ Below W.heap.size W W' := by
  obtain ⟨A, c, l, rfl, hl, hC, hok⟩ := open_evs k0 h0
  exact histParts_any W A c l hC hl hok
end Go.Proofs.Ytjmnbbflahacoaa.Hist
