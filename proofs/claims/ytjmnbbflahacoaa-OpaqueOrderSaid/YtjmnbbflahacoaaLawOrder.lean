/- OpaqueOrder: the call, for whatever reads as its arguments, returns true. No condition. -/
import Derived.Test.YtjmnbbflahacoaaOpensO
import Derived.Test.YtjmnbbflahacoaaWalkOrder
namespace Go.Proofs.Ytjmnbbflahacoaa.Opq
open Go.ChangeShapes Go.WideShapes Go.ChangeAt Go.RowKit Go.Proofs.Ytjmnbbflahacoaa.Kit Go.Proofs.Ytjmnbbflahacoaa.Hist Go.Proofs.Ytjmnbbflahacoaa.Model Go.Proofs.YtjmnbbflahacoaaW.PrintWords
set_option linter.unusedVariables false

set_option maxRecDepth 100000 in
theorem walk_opaqueOrder {H : Type} {enc : TypeId × Value → H} (W : World) (base : Nat) {v0 v1 : Value} {d0 d1 : DataW H} {p0 p1 : List MemPlace}
    (k0 : Value.okWide Try.prog W .any base 47 v0) (h0 : DataW.Trod enc Try.prog W 0 (fun _ => true) true 47 v0 d0 p0)
    (k1 : Value.okWide Try.prog W .any base 22 v1) (h1 : DataW.Trod enc Try.prog W 0 (fun _ => true) true 22 v1 d1 p1) :
    Calls Try.prog 15 #[v0, v1] W fun e W' => e = .returned (.bool true) ∧ Below W.heap.size W W' := by
  obtain ⟨Av, cv, xs, rfl, _, hF⟩ := open_vals k0 h0
  obtain ⟨A, c, l, rfl, hl, hC, hok⟩ := open_evsO k1 h1
  exact opaqueOrder_any W Av cv xs A c l hF hC hl hok
end Go.Proofs.Ytjmnbbflahacoaa.Opq
