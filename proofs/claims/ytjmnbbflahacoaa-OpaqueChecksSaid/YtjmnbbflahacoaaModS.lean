/- Of a beginning of a trace: those that committed, its states; and two rows of states, held against each other. No condition. -/
import Derived.Test.YtjmnbbflahacoaaModA
import Derived.Test.YtjmnbbflahacoaaPlaceX
import Derived.Deep.RegionWith
import Derived.Deep.DeepCutAuto
import Derived.Test.YtjmnbbflahacoaaOpens
namespace Go.Proofs.Ytjmnbbflahacoaa.Model
open Go.RowKit Go.Proofs.Ytjmnbbflahacoaa.Mem Go.Proofs.Ytjmnbbflahacoaa.Hist Go.Proofs.Ytjmnbbflahacoaa.PHistTells Go.Proofs.YtjmnbbflahacoaaW.PrintWords
set_option linter.unusedVariables false
set_option linter.unusedSimpArgs false

end Go.Proofs.Ytjmnbbflahacoaa.Model
/- Two rows of states, held against each other. No condition. -/
namespace Go.Proofs.Ytjmnbbflahacoaa.Model
open Go.RowKit Go.Proofs.Ytjmnbbflahacoaa.Mem Go.Proofs.Ytjmnbbflahacoaa.Hist Go.Proofs.Ytjmnbbflahacoaa.PHistTells Go.Proofs.YtjmnbbflahacoaaW.PrintWords
set_option linter.unusedVariables false
set_option linter.unusedSimpArgs false

theorem stsM_length (first : List Int) (l : List Ev) : (stsM first l).length = (commitsM l).length + 1 := stsUpTo_length _ _ _
theorem stsM_each (first : List Int) (l : List Ev) : ∀ s ∈ stsM first l, s.length = first.length := by
  intro s hs
  unfold stsM stsUpTo at hs
  rcases List.mem_cons.1 hs with rfl | hs
  · rfl
  · obtain ⟨i, _, rfl⟩ := List.mem_map.1 hs
    exact foldM_length _ _
theorem commitsM_length (l : List Ev) (h : rightM l = true) : (commitsM l).length = beforeM l l.length := by
  obtain ⟨cs, hcs⟩ : ∃ cs, CommitsOf l cs := ⟨(ended l).mergeSort (fun a b => decide (a.f5 ≤ b.f5)), List.mergeSort_perm _ _, by
    have := List.pairwise_mergeSort (le := fun a b : Tr => decide (a.f5 ≤ b.f5)) (by intro a b c; simp; omega) (by intro a b; simp; omega) (ended l)
    exact this.imp (fun h => by simpa using h)⟩
  rw [← commits_is hcs, hcs.perm.length_eq]
  exact committed_count h
end Go.Proofs.Ytjmnbbflahacoaa.Model
