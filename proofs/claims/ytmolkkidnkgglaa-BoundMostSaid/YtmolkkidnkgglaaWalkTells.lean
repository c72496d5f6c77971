/- BoundTells: the call, for whatever reads as its arguments, returns true. No condition. -/
import Derived.Test.YtmolkkidnkgglaaKd
import Derived.Test.YtmolkkidnkgglaaBPure
namespace Go.Proofs.Ytmolkkidnkgglaa.Kit
open Go.ChangeShapes Go.WideShapes Go.ChangeAt Go.RowKit Go.Proofs.YtmolkkidnkgglaaW.PrintWords Go.Proofs.Ytmolkkidnkgglaa.PBoundTells
set_option linter.unusedVariables false

theorem opens_op : Opens Try.prog 59 k59 := by
  intro H enc w fuel cs x h
  obtain ⟨zs, hl, rfl, _⟩ := open_i64s Try.underlying59 (by kernel_rfl) (by kernel_rfl) h
  match zs, hl with
  | [a, b, c], _ => exact ⟨⟨a, b, c⟩, k59_mk w _⟩

theorem walk_tells {H : Type} {enc : TypeId × Value → H} (W : World) (base : Nat) {v0 v1 v2 v3 : Value} {d0 d1 d2 d3 : DataW H} {p0 p1 p2 p3 : List MemPlace}
    (k0 : Value.okWide Try.prog W .any base 3 v0) (h0 : DataW.Trod enc Try.prog W 0 (fun _ => true) true 3 v0 d0 p0)
    (k1 : Value.okWide Try.prog W .any base 3 v1) (h1 : DataW.Trod enc Try.prog W 0 (fun _ => true) true 3 v1 d1 p1)
    (k2 : Value.okWide Try.prog W .any base 3 v2) (h2 : DataW.Trod enc Try.prog W 0 (fun _ => true) true 3 v2 d2 p2)
    (k3 : Value.okWide Try.prog W .any base 27 v3) (h3 : DataW.Trod enc Try.prog W 0 (fun _ => true) true 27 v3 d3 p3) :
    Calls Try.prog 4 #[v0, v1, v2, v3] W fun e W' => e = .returned (.bool true) ∧ Below W.heap.size W W' := by
  obtain ⟨a0, rfl, rfl, rfl, w0⟩ := open_int Try.underlying3 k0 h0
  obtain ⟨a1, rfl, rfl, rfl, w1⟩ := open_int Try.underlying3 k1 h1
  obtain ⟨a2, rfl, rfl, rfl, w2⟩ := open_int Try.underlying3 k2 h2
  obtain ⟨A, c, l, rfl, hl, hC⟩ := open_kd (d := Kd.slice 40 (Kd.slice 59 k59)) Try.underlying27 (by kernel_rfl) (opens_slice 40 Try.underlying37 (by kernel_rfl) (opens_slice 59 Try.underlying40 (by kernel_rfl) opens_op)) k3 h3
  obtain ⟨k, hk⟩ := BPure.tells a0 a1 a2 l
  exact quarrellaw23_BoundTells.calls k a0 a1 a2 A c l true W hC hl hk
end Go.Proofs.Ytmolkkidnkgglaa.Kit
