/- ModelApart, plain: tries that write no object both write are applied in either order alike, and one twice as once. No condition. -/
import Derived.Test.YtjmnbbflahacoaaModA
namespace Go.Proofs.Ytjmnbbflahacoaa.Model
open Go.RowKit Go.Proofs.Ytjmnbbflahacoaa.Mem Go.Proofs.Ytjmnbbflahacoaa.Hist Go.Proofs.Ytjmnbbflahacoaa.PHistTells Go.Proofs.YtjmnbbflahacoaaW.PrintWords
set_option linter.unusedVariables false
set_option linter.unusedSimpArgs false

/-- What an access makes of the value of the object o. -/
def one1 (o : Nat) (d : Int) (a : Acc) : Int := if a.f1 = 3 ∧ a.f2 = (o : Int) then a.f3 else d
def lastW (l : List Acc) (o : Nat) (d : Int) : Int := l.foldl (one1 o) d
theorem put1_get (vs : List Int) (a : Acc) (o : Nat) : (put1 vs a)[o]? = (vs[o]?).map (fun d => one1 o d a) := by
  unfold put1 one1
  by_cases h : a.f1 = 3 ∧ 0 ≤ a.f2 ∧ a.f2 < (vs.length : Int)
  · rw [if_pos h]
    by_cases ho : a.f2.toNat = o
    · subst ho
      rw [List.getElem?_set_self (by omega), List.getElem?_eq_getElem (show a.f2.toNat < vs.length by omega)]
      simp only [Option.map_some]
      rw [if_pos ⟨h.1, by omega⟩]
    · rw [List.getElem?_set_ne ho]
      cases hv : vs[o]? with
      | none => rfl
      | some d =>
        simp only [Option.map_some]
        rw [if_neg (fun hh => ho (by omega))]
  · rw [if_neg h]
    cases hv : vs[o]? with
    | none => rfl
    | some d =>
      simp only [Option.map_some]
      have hlt := (List.getElem?_eq_some_iff.1 hv).1
      rw [if_neg (fun hh => h ⟨hh.1, by omega, by omega⟩)]
theorem applyM_get (l : List Acc) : ∀ (vs : List Int) (o : Nat), (applyM vs l)[o]? = (vs[o]?).map (lastW l o) := by
  induction l with
  | nil => intro vs o; unfold applyM lastW; simp
  | cons a l ih =>
    intro vs o
    have h1 : applyM vs (a :: l) = applyM (put1 vs a) l := rfl
    rw [h1, ih, put1_get]
    cases vs[o]? with
    | none => rfl
    | some d => rfl
end Go.Proofs.Ytjmnbbflahacoaa.Model
/- model: Fits: whether a try read what it should. No condition. -/
namespace Go.Proofs.Ytjmnbbflahacoaa.Model
open Go.RowKit Go.ChangeMaps Go.Maps Go.Proofs.Ytjmnbbflahacoaa.Mem Go.Proofs.Ytjmnbbflahacoaa.Hist Go.Proofs.Ytjmnbbflahacoaa.PHistTells Go.Proofs.YtjmnbbflahacoaaW.PrintWords
set_option linter.unusedVariables false
set_option linter.unusedSimpArgs false

/-- What was written last to an object. -/
def ownOf (pre : List Acc) (o : Int) : Option Int := pre.foldl (fun d a => if a.f1 = 3 ∧ a.f2 = o then some a.f3 else d) none
/-- The value of an object. -/
def valAt (vs : List Int) (o : Int) : Option Int := if 0 ≤ o then vs[o.toNat]? else none
/-- Is a reading, behind pre, what it should be? -/
def okAt (vs : List Int) (pre : List Acc) (a : Acc) : Bool :=
  if a.f1 == 2 && !a.f5 then (match ownOf pre a.f2 with
    | some v => a.f4 && v == a.f3
    | none => !a.f4 && valAt vs a.f2 == some a.f3) else true
theorem belowSet {B : Nat} {a w : World} (h : Below B a w) {b : Nat} (hb : B ≤ b) (o : Obj) : Below B a (setBlock w b o) :=
  ⟨h.os, h.tape, h.output, by have := h.size; simpa [setBlock] using this, fun k hk => by
    have := h.block k hk
    rw [← this]
    simp [setBlock, show b ≠ k by omega]⟩
end Go.Proofs.Ytjmnbbflahacoaa.Model
/- ModelReads, plain: what plays a part in whether a try fits. No condition. -/
namespace Go.Proofs.Ytjmnbbflahacoaa.Model
open Go.RowKit Go.Proofs.Ytjmnbbflahacoaa.Mem Go.Proofs.Ytjmnbbflahacoaa.Hist Go.Proofs.Ytjmnbbflahacoaa.PHistTells Go.Proofs.YtjmnbbflahacoaaW.PrintWords
set_option linter.unusedVariables false
set_option linter.unusedSimpArgs false

end Go.Proofs.Ytjmnbbflahacoaa.Model
