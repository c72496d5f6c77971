/- How an argument that is a trace reads: its events, each field an int64. No condition. -/
import Derived.Test.YtjmnbbflahacoaaKd
import Derived.Test.YtjmnbbflahacoaaHistX
namespace Go.Proofs.Ytjmnbbflahacoaa.Hist
open Go.ChangeShapes Go.WideShapes Go.ChangeAt Go.RowKit Go.Proofs.Ytjmnbbflahacoaa.Mem Go.Proofs.Ytjmnbbflahacoaa.Kit Go.Proofs.Ytjmnbbflahacoaa.PHistTells Go.Proofs.YtjmnbbflahacoaaW.PrintWords
set_option linter.unusedVariables false

/-- A kind, of those for which p. -/
def such {α : Type} (d : Kd α) (p : α → Prop) : Kd α where
  sz := d.sz
  E := d.E
  K := fun w x cs => d.K w x cs ∧ p x
  M := fun w base ok x cs => d.M w base ok x cs ∧ p x
  K_len := fun h => d.K_len h.1
  K_one := fun h => d.K_one h.1
  K_below := fun hb h => ⟨d.K_below hb h.1, h.2⟩
  K_of_M := fun h => ⟨d.K_of_M h.1, h.2⟩
  M_mono := fun hok h => ⟨d.M_mono hok h.1, h.2⟩
  M_bound := fun h => ⟨d.M_bound h.1, h.2⟩
  M_move := fun hm h => ⟨d.M_move hm h.1, h.2⟩
  M_lower := fun hb h => ⟨d.M_lower hb h.1, h.2⟩
theorem such_C {α : Type} {d : Kd α} {p : α → Prop} {w : World} {A : Option Addr} {n : Nat} {xs : List α} (h : (such d p).C w A n xs) : d.C w A n xs ∧ ∀ x ∈ xs, p x := by
  refine ⟨⟨h.1, h.2.1, fun hp => ?_⟩, fun x hx => ?_⟩
  · obtain ⟨ad, e, hc⟩ := h.2.2 hp
    exact ⟨ad, e, fun j q hj => by obtain ⟨c, h1, h2, h3⟩ := hc j q hj; exact ⟨c, h1, h2.1, h3⟩⟩
  · obtain ⟨j, hj⟩ := List.getElem?_of_mem hx
    have hlt := (List.getElem?_eq_some_iff.1 hj).1
    obtain ⟨ad, e, hc⟩ := h.2.2 (by have := h.1; omega)
    obtain ⟨c, _, h2, _⟩ := hc j x hj
    exact h2.2

set_option maxRecDepth 100000 in
theorem opens_ev : Opens Try.prog 31 (such kEv EvOk) := by
  intro H enc w fuel cs x h
  obtain ⟨zs, hl, rfl, hw⟩ := open_i64s Try.underlying31 (by kernel_rfl) (by kernel_rfl) h
  match zs, hl with
  | [a, b, c, d, e, f, g], _ => exact ⟨⟨a, b, c, d, e, f, g⟩, k31_mk w _, ⟨hw 1 b rfl, hw 2 c rfl⟩⟩

set_option maxRecDepth 100000 in
/-- An argument that is a trace. -/
theorem open_evs {H : Type} {enc : TypeId × Value → H} {W : World} {base : Nat} {v : Value} {d : DataW H} {p : List MemPlace} (k : Value.okWide Try.prog W .any base 22 v) (h : DataW.Trod enc Try.prog W 0 (fun _ => true) true 22 v d p) :
    ∃ A c l, v = .slice A l.length c ∧ l.length ≤ c ∧ kEv.C W A l.length l ∧ ∀ e ∈ l, EvOk e := by
  obtain ⟨A, c, l, e, hl, hC⟩ := open_kd (d := such kEv EvOk) Try.underlying22 (by kernel_rfl) opens_ev k h
  obtain ⟨h1, h2⟩ := such_C hC
  exact ⟨A, c, l, e, hl, h1, h2⟩
end Go.Proofs.Ytjmnbbflahacoaa.Hist
/- How arguments that are a try, or numbers, read. No condition. -/
namespace Go.Proofs.Ytjmnbbflahacoaa.Model
open Go.ChangeShapes Go.WideShapes Go.ChangeAt Go.RowKit Go.Proofs.Ytjmnbbflahacoaa.Mem Go.Proofs.Ytjmnbbflahacoaa.Kit Go.Proofs.Ytjmnbbflahacoaa.Hist Go.Proofs.Ytjmnbbflahacoaa.PHistTells Go.Proofs.YtjmnbbflahacoaaW.PrintWords
set_option linter.unusedVariables false

set_option maxRecDepth 100000 in
/-- An argument that is a row of int64s. -/
theorem open_vals {H : Type} {enc : TypeId × Value → H} {W : World} {base : Nat} {v : Value} {d : DataW H} {p : List MemPlace} (k : Value.okWide Try.prog W .any base 47 v) (h : DataW.Trod enc Try.prog W 0 (fun _ => true) true 47 v d p) :
    ∃ A c xs, v = .slice A xs.length c ∧ xs.length ≤ c ∧ (Kd.int .i64).C W A xs.length xs := open_kd Try.underlying47 (by kernel_rfl) (opens_int Try.underlying2) k h
end Go.Proofs.Ytjmnbbflahacoaa.Model
/- How an argument that is a try reads, its accesses' objects int64s. No condition. -/
namespace Go.Proofs.Ytjmnbbflahacoaa.Model
open Go.ChangeShapes Go.WideShapes Go.ChangeAt Go.RowKit Go.Proofs.Ytjmnbbflahacoaa.Mem Go.Proofs.Ytjmnbbflahacoaa.Kit Go.Proofs.Ytjmnbbflahacoaa.Hist Go.Proofs.Ytjmnbbflahacoaa.PHistTells Go.Proofs.YtjmnbbflahacoaaW.PrintWords
set_option linter.unusedVariables false

end Go.Proofs.Ytjmnbbflahacoaa.Model
