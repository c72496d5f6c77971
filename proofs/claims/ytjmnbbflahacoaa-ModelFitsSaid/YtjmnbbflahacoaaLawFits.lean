/- ModelFits: the call, for whatever reads as its arguments, returns true. No condition. -/
import Derived.Test.YtjmnbbflahacoaaOpens
import Derived.Test.YtjmnbbflahacoaaWalkFits
namespace Go.Proofs.Ytjmnbbflahacoaa.Model
open Go.ChangeShapes Go.WideShapes Go.ChangeAt Go.RowKit Go.Proofs.Ytjmnbbflahacoaa.Kit Go.Proofs.YtjmnbbflahacoaaW.PrintWords
set_option linter.unusedVariables false

set_option maxRecDepth 100000 in
theorem walk_modelFits {H : Type} {enc : TypeId × Value → H} (W : World) (base : Nat) {v0 v1 : Value} {d0 d1 : DataW H} {p0 p1 : List MemPlace}
    (k0 : Value.okWide Try.prog W .any base 47 v0) (h0 : DataW.Trod enc Try.prog W 0 (fun _ => true) true 47 v0 d0 p0)
    (k1 : Value.okWide Try.prog W .any base 29 v1) (h1 : DataW.Trod enc Try.prog W 0 (fun _ => true) true 29 v1 d1 p1) :
    Calls Try.prog 11 #[v0, v1] W fun e W' => e = .returned (.bool true) ∧ Below W.heap.size W W' := by
  obtain ⟨A, c, xs, rfl, _, hC⟩ := open_vals k0 h0
  obtain ⟨s, A8, c8, rfl, _, hA, ho⟩ := open_tryW k1 h1
  exact modelFits_any W A c xs s A8 c8 hC hA ho
end Go.Proofs.Ytjmnbbflahacoaa.Model
