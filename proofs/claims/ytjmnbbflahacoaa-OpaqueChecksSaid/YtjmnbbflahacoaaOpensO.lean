/- How an argument that is a trace reads: its events, each field that is asked an int64, the object too. No condition. -/
import Derived.Test.YtjmnbbflahacoaaOpens
import Derived.Test.YtjmnbbflahacoaaOpB
namespace Go.Proofs.Ytjmnbbflahacoaa.Opq
open Go.ChangeShapes Go.WideShapes Go.ChangeAt Go.RowKit Go.Proofs.Ytjmnbbflahacoaa.Mem Go.Proofs.Ytjmnbbflahacoaa.Kit Go.Proofs.Ytjmnbbflahacoaa.Hist Go.Proofs.Ytjmnbbflahacoaa.PHistTells Go.Proofs.YtjmnbbflahacoaaW.PrintWords
set_option linter.unusedVariables false

set_option maxRecDepth 100000 in
theorem opens_evO : Opens Try.prog 31 (such kEv EvOkO) := by
  intro H enc w fuel cs x h
  obtain ⟨zs, hl, rfl, hw⟩ := open_i64s Try.underlying31 (by kernel_rfl) (by kernel_rfl) h
  match zs, hl with
  | [a, b, c, d, e, f, g], _ => exact ⟨⟨a, b, c, d, e, f, g⟩, k31_mk w _, ⟨hw 1 b rfl, hw 2 c rfl⟩, hw 4 e rfl⟩

set_option maxRecDepth 100000 in
/-- An argument that is a trace. -/
theorem open_evsO {H : Type} {enc : TypeId × Value → H} {W : World} {base : Nat} {v : Value} {d : DataW H} {p : List MemPlace} (k : Value.okWide Try.prog W .any base 22 v) (h : DataW.Trod enc Try.prog W 0 (fun _ => true) true 22 v d p) :
    ∃ A c l, v = .slice A l.length c ∧ l.length ≤ c ∧ kEv.C W A l.length l ∧ ∀ e ∈ l, EvOkO e := by
  obtain ⟨A, c, l, e, hl, hC⟩ := open_kd (d := such kEv EvOkO) Try.underlying22 (by kernel_rfl) opens_evO k h
  obtain ⟨h1, h2⟩ := such_C hC
  exact ⟨A, c, l, e, hl, h1, h2⟩
end Go.Proofs.Ytjmnbbflahacoaa.Opq
