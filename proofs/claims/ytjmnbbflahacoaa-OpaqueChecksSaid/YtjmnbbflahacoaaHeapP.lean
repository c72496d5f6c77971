/- Heaps, plain: what up and down keep. No condition. -/
import Derived.Test.YtjmnbbflahacoaaHeap
namespace Go.Proofs.Ytjmnbbflahacoaa.Opq
open Go.RowKit Go.Proofs.Ytjmnbbflahacoaa.Mem
set_option linter.unusedVariables false
set_option linter.unusedSimpArgs false

/-- No later. -/
def leT (a b : Th) : Prop := a.1 < b.1 ∨ (a.1 = b.1 ∧ a.2 ≤ b.2)
theorem leT_of_lt {a b : Th} (h : ltT a b = true) : leT a b := by
  unfold ltT at h; unfold leT
  split at h <;> simp at h <;> omega
theorem leT_of_not {a b : Th} (h : ltT a b = false) : leT b a := by
  unfold ltT at h; unfold leT
  split at h <;> simp at h <;> omega
theorem leT_refl (a : Th) : leT a a := by unfold leT; omega
theorem leT_trans {a b c : Th} (h : leT a b) (k : leT b c) : leT a c := by unfold leT at *; omega
theorem leT_antisymm {a b : Th} (h : leT a b) (k : leT b a) : a = b := by
  unfold leT at *
  exact Prod.ext (by omega) (by omega)

/-- Two places change what they hold. -/
def swapL (xs : List Th) (i j : Nat) (hi : i < xs.length) (hj : j < xs.length) : List Th := (xs.set i xs[j]).set j xs[i]
theorem swapL_length (xs : List Th) (i j : Nat) (hi : i < xs.length) (hj : j < xs.length) : (swapL xs i j hi hj).length = xs.length := by simp [swapL]
theorem swapL_perm (xs : List Th) (i j : Nat) (hi : i < xs.length) (hj : j < xs.length) : (swapL xs i j hi hj).Perm xs := List.set_set_perm hi hj
theorem swapL_get (xs : List Th) (i j : Nat) (hi : i < xs.length) (hj : j < xs.length) (k : Nat) (hk : k < xs.length) :
    (swapL xs i j hi hj)[k]'(by rw [swapL_length]; exact hk) = if k = j then xs[i] else if k = i then xs[j] else xs[k] := by
  unfold swapL
  rw [List.getElem_set]
  by_cases h1 : j = k
  · subst h1; simp
  · rw [if_neg h1, if_neg (Ne.symm h1), List.getElem_set]
    by_cases h2 : i = k
    · subst h2; simp
    · rw [if_neg h2, if_neg (Ne.symm h2)]

/-- A heap of the first n, but for what stands at k and above it. -/
def UpTo (xs : List Th) (k : Nat) : Prop := (∀ (i : Nat) (hi : i < xs.length), 0 < i → i ≠ k → leT (xs[(i - 1) / 2]'(by omega)) xs[i]) ∧
  (∀ (i : Nat) (hi : i < xs.length), 0 < i → (hp : (i - 1) / 2 = k) → 0 < k → leT (xs[(k - 1) / 2]'(by omega)) xs[i])
def HeapL (xs : List Th) : Prop := ∀ (i : Nat) (hi : i < xs.length), 0 < i → leT (xs[(i - 1) / 2]'(by omega)) xs[i]
theorem up_start {xs : List Th} {x : Th} (h : HeapL xs) : UpTo (xs ++ [x]) xs.length := by
  constructor
  · intro i hi h0 hne
    have hl : i < xs.length := by simp at hi; omega
    rw [List.getElem_append_left hl, List.getElem_append_left (by omega)]
    exact h i hl h0
  · intro i hi h0 hp hk
    simp at hi
    omega
theorem up_done0 {xs : List Th} (h : UpTo xs 0) : HeapL xs := fun i hi h0 => h.1 i hi h0 (by omega)
theorem up_done {xs : List Th} {k : Nat} (hk : k < xs.length) (h0 : 0 < k) (h : UpTo xs k) (hl : ltT xs[k] (xs[(k - 1) / 2]'(by omega)) = false) : HeapL xs := fun i hi h0 => by
  by_cases hik : i = k
  · subst hik; exact leT_of_not hl
  · exact h.1 i hi h0 hik
theorem up_step {xs : List Th} {k : Nat} (hk : k < xs.length) (h0 : 0 < k) (h : UpTo xs k) (hl : ltT xs[k] (xs[(k - 1) / 2]'(by omega)) = true) : UpTo (swapL xs ((k - 1) / 2) k (by omega) hk) ((k - 1) / 2) := by
  have hlt := leT_of_lt hl
  obtain ⟨p, hp⟩ : ∃ p, (k - 1) / 2 = p := ⟨_, rfl⟩
  have hpk : p < k := by omega
  simp only [hp] at hlt ⊢
  have hpl : p < xs.length := by omega
  constructor
  · intro i hi hi0 hne
    rw [swapL_length] at hi
    rw [swapL_get xs p k hpl hk _ (by omega), swapL_get xs p k hpl hk _ hi]
    by_cases hik : i = k
    · have hip : (i - 1) / 2 = p := by rw [hik]; exact hp
      rw [if_pos hik, if_neg (by omega), if_pos hip]
      exact hlt
    · rw [if_neg hik, if_neg hne]
      have hold := h.1 i hi hi0 hik
      by_cases h1 : (i - 1) / 2 = k
      · simp only [h1, if_true]
        have hh := h.2 i hi hi0 h1 h0
        simp only [hp] at hh
        exact hh
      · rw [if_neg h1]
        by_cases h2 : (i - 1) / 2 = p
        · simp only [h2, if_true]
          simp only [h2] at hold
          exact leT_trans hlt hold
        · rw [if_neg h2]; exact hold
  · intro i hi hi0 hpi hp0
    rw [swapL_length] at hi
    rw [swapL_get xs p k hpl hk _ (by omega), swapL_get xs p k hpl hk _ hi]
    rw [if_neg (by omega), if_neg (by omega)]
    have hpp := h.1 p hpl hp0 (by omega)
    by_cases hik : i = k
    · rw [if_pos hik]; exact hpp
    · rw [if_neg hik, if_neg (by omega)]
      have hold := h.1 i hi hi0 hik
      simp only [hpi] at hold
      exact leT_trans hpp hold

/-- A heap of the first n, but for what stands at k and below it. -/
def DownTo (xs : List Th) (n k : Nat) (hn : n ≤ xs.length) : Prop := (∀ (i : Nat) (hi : i < n), 0 < i → (i - 1) / 2 ≠ k → leT (xs[(i - 1) / 2]'(by omega)) (xs[i]'(by omega))) ∧
  (∀ (i : Nat) (hi : i < n), 0 < i → (hp : (i - 1) / 2 = k) → 0 < k → leT (xs[(k - 1) / 2]'(by omega)) (xs[i]'(by omega)))
theorem down_step {xs : List Th} {n k j : Nat} (hn : n ≤ xs.length) (hk : k < n) (hj : j < n) (hpj : 0 < j ∧ (j - 1) / 2 = k) (h : DownTo xs n k hn) (hl : ltT (xs[j]'(by omega)) (xs[k]'(by omega)) = true)
    (hm : ∀ i, (hi : i < n) → 0 < i → (hp : (i - 1) / 2 = k) → leT (xs[j]'(by omega)) (xs[i]'(by omega))) : DownTo (swapL xs k j (by omega) (by omega)) n j (by rw [swapL_length]; exact hn) := by
  have hlt := leT_of_lt hl
  have hkl : k < xs.length := by omega
  have hjl : j < xs.length := by omega
  constructor
  · intro i hi hi0 hne
    rw [swapL_get xs k j hkl hjl _ (by omega), swapL_get xs k j hkl hjl _ (by omega)]
    rw [if_neg hne]
    by_cases hik : (i - 1) / 2 = k
    · rw [if_pos hik]
      by_cases hij : i = j
      · rw [if_pos hij]; exact hlt
      · rw [if_neg hij, if_neg (by omega)]
        exact hm i hi hi0 hik
    · rw [if_neg hik]
      have hold := h.1 i hi hi0 hik
      by_cases hij : i = j
      · exact absurd (by rw [hij]; exact hpj.2) hik
      · rw [if_neg hij]
        by_cases hi2 : i = k
        · rw [if_pos hi2]
          have h2 := h.2 j hj hpj.1 hpj.2 (by omega)
          subst hi2
          exact h2
        · rw [if_neg hi2]; exact hold
  · intro i hi hi0 hpi hj0
    rw [swapL_get xs k j hkl hjl _ (by omega), swapL_get xs k j hkl hjl _ (by omega)]
    rw [if_neg (by omega), if_pos hpj.2, if_neg (by omega), if_neg (by omega)]
    have := h.1 i hi hi0 (by omega)
    simp only [hpi] at this
    exact this
theorem down_done {xs : List Th} {n k : Nat} (hn : n ≤ xs.length) (h : DownTo xs n k hn) (hm : ∀ i, (hi : i < n) → 0 < i → (hp : (i - 1) / 2 = k) → leT (xs[k]'(by omega)) (xs[i]'(by omega))) : ∀ (i : Nat) (hi : i < n), 0 < i → leT (xs[(i - 1) / 2]'(by omega)) (xs[i]'(by omega)) := fun i hi h0 => by
  by_cases hik : (i - 1) / 2 = k
  · have := hm i hi h0 hik
    simp only [hik]
    exact this
  · exact h.1 i hi h0 hik
theorem heap_least {xs : List Th} (h : HeapL xs) : ∀ (i : Nat) (hi : i < xs.length), leT (xs[0]'(by omega)) xs[i] := by
  intro i
  induction i using Nat.strongRecOn with
  | _ i ih =>
    intro hi
    by_cases h0 : i = 0
    · subst h0; exact leT_refl _
    · exact leT_trans (ih ((i - 1) / 2) (by omega) (by omega)) (h i hi (by omega))
end Go.Proofs.Ytjmnbbflahacoaa.Opq
