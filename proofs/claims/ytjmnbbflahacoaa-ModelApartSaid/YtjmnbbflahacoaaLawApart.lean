/- ModelApart: the call, for whatever reads as its arguments, returns true. No condition. -/
import Derived.Test.YtjmnbbflahacoaaOpenTry
import Derived.Test.YtjmnbbflahacoaaWalkApart
namespace Go.Proofs.Ytjmnbbflahacoaa.Model
open Go.ChangeShapes Go.WideShapes Go.ChangeAt Go.RowKit Go.Proofs.Ytjmnbbflahacoaa.Kit Go.Proofs.YtjmnbbflahacoaaW.PrintWords
set_option linter.unusedVariables false

set_option maxRecDepth 100000 in
theorem walk_modelApart {H : Type} {enc : TypeId × Value → H} (W : World) (base : Nat) {v0 v1 v2 : Value} {d0 d1 d2 : DataW H} {p0 p1 p2 : List MemPlace}
    (k0 : Value.okWide Try.prog W .any base 47 v0) (h0 : DataW.Trod enc Try.prog W 0 (fun _ => true) true 47 v0 d0 p0)
    (k1 : Value.okWide Try.prog W .any base 29 v1) (h1 : DataW.Trod enc Try.prog W 0 (fun _ => true) true 29 v1 d1 p1)
    (k2 : Value.okWide Try.prog W .any base 29 v2) (h2 : DataW.Trod enc Try.prog W 0 (fun _ => true) true 29 v2 d2 p2) :
    Calls Try.prog 8 #[v0, v1, v2] W fun e W' => e = .returned (.bool true) ∧ Below W.heap.size W W' := by
  obtain ⟨A, c, xs, rfl, _, hC⟩ := open_vals k0 h0
  obtain ⟨s, A8, c8, rfl, _, hA⟩ := open_try k1 h1
  obtain ⟨t, B8, d8, rfl, _, hB⟩ := open_try k2 h2
  exact modelApart_any W A c xs s t A8 B8 c8 d8 hC hA hB
end Go.Proofs.Ytjmnbbflahacoaa.Model
