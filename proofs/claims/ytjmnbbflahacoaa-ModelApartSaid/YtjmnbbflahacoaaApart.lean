/- ModelApart, plain: tries that write no object both write are applied in either order alike, and one twice as once. No condition. -/
import Derived.Test.YtjmnbbflahacoaaModelA
namespace Go.Proofs.Ytjmnbbflahacoaa.Model
open Go.RowKit Go.Proofs.Ytjmnbbflahacoaa.Mem Go.Proofs.Ytjmnbbflahacoaa.Hist Go.Proofs.Ytjmnbbflahacoaa.PHistTells Go.Proofs.YtjmnbbflahacoaaW.PrintWords
set_option linter.unusedVariables false
set_option linter.unusedSimpArgs false

/-- What an access makes of the value of the object o. -/
def one1 (o : Nat) (d : Int) (a : Acc) : Int := if a.f1 = 3 ∧ a.f2 = (o : Int) then a.f3 else d
def lastW (l : List Acc) (o : Nat) (d : Int) : Int := l.foldl (one1 o) d
theorem put1_get (vs : List Int) (a : Acc) (o : Nat) : (put1 vs a)[o]? = (vs[o]?).map (fun d => one1 o d a) := by
  unfold put1 one1
  by_cases h : a.f1 = 3 ∧ 0 ≤ a.f2 ∧ a.f2 < (vs.length : Int)
  · rw [if_pos h]
    by_cases ho : a.f2.toNat = o
    · subst ho
      rw [List.getElem?_set_self (by omega), List.getElem?_eq_getElem (show a.f2.toNat < vs.length by omega)]
      simp only [Option.map_some]
      rw [if_pos ⟨h.1, by omega⟩]
    · rw [List.getElem?_set_ne ho]
      cases hv : vs[o]? with
      | none => rfl
      | some d =>
        simp only [Option.map_some]
        rw [if_neg (fun hh => ho (by omega))]
  · rw [if_neg h]
    cases hv : vs[o]? with
    | none => rfl
    | some d =>
      simp only [Option.map_some]
      have hlt := (List.getElem?_eq_some_iff.1 hv).1
      rw [if_neg (fun hh => h ⟨hh.1, by omega, by omega⟩)]
theorem applyM_get (l : List Acc) : ∀ (vs : List Int) (o : Nat), (applyM vs l)[o]? = (vs[o]?).map (lastW l o) := by
  induction l with
  | nil => intro vs o; unfold applyM lastW; simp
  | cons a l ih =>
    intro vs o
    have h1 : applyM vs (a :: l) = applyM (put1 vs a) l := rfl
    rw [h1, ih, put1_get]
    cases vs[o]? with
    | none => rfl
    | some d => rfl
theorem lastW_cons (a : Acc) (l : List Acc) (o : Nat) (d : Int) : lastW (a :: l) o d = lastW l o (one1 o d a) := rfl
theorem lastW_twice (o : Nat) : ∀ (l : List Acc), (∃ c, ∀ d, lastW l o d = c) ∨ (∀ d, lastW l o d = d)
  | [] => .inr (fun _ => rfl)
  | a :: l => by
    rcases lastW_twice o l with ⟨c, h⟩ | h
    · exact .inl ⟨c, fun d => by rw [lastW_cons]; exact h _⟩
    · by_cases hw : a.f1 = 3 ∧ a.f2 = (o : Int)
      · exact .inl ⟨a.f3, fun d => by rw [lastW_cons, h]; unfold one1; rw [if_pos hw]⟩
      · exact .inr (fun d => by rw [lastW_cons, h]; unfold one1; rw [if_neg hw])
theorem lastW_id (o : Nat) : ∀ (l : List Acc), (∀ a ∈ l, ¬ (a.f1 = 3 ∧ a.f2 = (o : Int))) → ∀ d, lastW l o d = d
  | [], _, d => rfl
  | a :: l, h, d => by
    rw [lastW_cons, lastW_id o l (fun b hb => h b (List.mem_cons_of_mem _ hb))]
    unfold one1
    rw [if_neg (h a List.mem_cons_self)]
/-- Applied twice, a try is applied once. -/
theorem apply_twice (vs : List Int) (l : List Acc) : applyM (applyM vs l) l = applyM vs l := by
  apply List.ext_getElem?
  intro o
  rw [applyM_get, applyM_get]
  cases vs[o]? with
  | none => rfl
  | some d =>
    simp only [Option.map_some]
    rcases lastW_twice o l with ⟨c, h⟩ | h
    · rw [h, h]
    · rw [h, h]
/-- Is there an object that both write? -/
def clash (a b : Acc) : Bool := a.f1 == 3 && b.f1 == 3 && a.f2 == b.f2
theorem apply_apart (vs : List Int) (l m : List Acc) (h : ∀ a ∈ l, ∀ b ∈ m, clash a b = false) : applyM (applyM vs l) m = applyM (applyM vs m) l := by
  apply List.ext_getElem?
  intro o
  rw [applyM_get, applyM_get, applyM_get, applyM_get]
  cases vs[o]? with
  | none => rfl
  | some d =>
    simp only [Option.map_some]
    by_cases hl : ∀ a ∈ l, ¬ (a.f1 = 3 ∧ a.f2 = (o : Int))
    · rw [lastW_id o l hl, lastW_id o l hl]
    · have hm : ∀ b ∈ m, ¬ (b.f1 = 3 ∧ b.f2 = (o : Int)) := by
        intro b hb hw
        apply hl
        intro a ha hw'
        have := h a ha b hb
        unfold clash at this
        rw [hw.1, hw'.1, hw.2, hw'.2] at this
        simp at this
      rw [lastW_id o m hm, lastW_id o m hm]
end Go.Proofs.Ytjmnbbflahacoaa.Model
