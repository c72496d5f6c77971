/- A region that draws its order, walked in one order, where what breaks S waits for the rest through some others. No condition. -/
import Derived.Test.YtjmnbbflahacoaaBase
namespace Go.Proofs.Ytjmnbbflahacoaa.Mem
open Go.RowKit
set_option linter.unusedVariables false
set_option linter.unusedSimpArgs false

section
variable {P : Program} {ops : Array Oper} {Q : Exit → Act → World → Prop} {md : Region.Mode} {S : World → Prop} {X : List Nat}
/-- Does operation j wait for i, by at most n others that aren't done yet? -/
def late (md : Region.Mode) (ops : Array Oper) (listed : Array Bool) : Nat → Nat → Nat → Bool
  | 0, j, i => waitsB md ops j i
  | n + 1, j, i => waitsB md ops j i || (List.range ops.size).any fun k => waitsB md ops j k && (!listed.getD k true && late md ops listed n k i)
theorem late_not_ready {listed : Array Bool} {i : Nat} (h0 : listed.getD i true = false) : ∀ (n j : Nat), late md ops listed n j i = true → j ∈ Region.ready md ops listed → False
  | 0, j, h, hj => getD_flip h0 (waitsB_ready h hj)
  | n + 1, j, h, hj => by
    unfold late at h
    rw [Bool.or_eq_true] at h
    rcases h with h | h
    · exact getD_flip h0 (waitsB_ready h hj)
    · obtain ⟨k, _, hk⟩ := List.any_eq_true.1 h
      simp only [Bool.and_eq_true, Bool.not_eq_true'] at hk
      exact getD_flip hk.2.1 (waitsB_ready hk.1 hj)
theorem late_set {listed : Array Bool} {i e : Nat} (h0 : listed.getD i true = false) (he : e ∈ Region.ready md ops listed) : ∀ (n j : Nat), late md ops listed n j i = true → late md ops (listed.setIfInBounds e true) n j i = true
  | 0, j, h => h
  | n + 1, j, h => by
    unfold late at h ⊢
    rw [Bool.or_eq_true] at h ⊢
    rcases h with h | h
    · exact .inl h
    · obtain ⟨k, hkm, hk⟩ := List.any_eq_true.1 h
      simp only [Bool.and_eq_true, Bool.not_eq_true'] at hk
      refine .inr (List.any_eq_true.2 ⟨k, hkm, ?_⟩)
      simp only [Bool.and_eq_true, Bool.not_eq_true']
      have hke : e ≠ k := by
        rintro rfl
        exact late_not_ready h0 n e hk.2.2 he
      exact ⟨hk.1, by rw [getD_set_ne true hke]; exact hk.2.1, late_set h0 he n k hk.2.2⟩
def lateAll (md : Region.Mode) (ops : Array Oper) (listed : Array Bool) (X : List Nat) (n i : Nat) : Bool := X.all fun j => late md ops listed n j i

theorem wpAnyX_firstL {n i : Nat} {oi : Oper} {v : Value} (hi : ops[i]? = some oi) (hsel : ∀ (j : Nat) (o : Oper) cs b, ops[j]? = some o → o.op ≠ .select cs b)
    (hQ : ∀ c a w, Q (.panic c) (a.put oi.dst v) w → Q (.panic c) a w) :
    ∀ (fuel : Nat) (listed : Array Bool) (a : Act) (w : World), lateAll md ops listed X n i = true →
      (∀ j oj, ops[j]? = some oj → j ≠ i → listed.getD j true = false → (∀ e ∈ oj.after, Region.binds md e = true → e.on ≠ i) → oi.apart ops oj = true) →
      i ∈ Region.ready md ops listed → YieldsIf P ops S oi v a → S w →
      wpAnyX P md ops Q S X fuel (listed.setIfInBounds i true) (a.put oi.dst v) w → wpAnyX P md ops Q S X (fuel + 1) listed a w := by
  intro fuel
  induction fuel with
  | zero =>
    intro listed a w _ _ hr hy hS H
    refine ⟨fun h => (by rw [h] at hr; cases hr), fun j hj => ?_⟩
    by_cases hji : j = i
    · subst hji; exact hy.wpOp hi hS ⟨fun _ => hS, H⟩
    · have := ready_mono hj hji
      rw [H.1] at this
      cases this
  | succ fuel ih =>
    intro listed a w hX hfree hr hy hS H
    refine ⟨fun h => (by rw [h] at hr; cases hr), fun j hj => ?_⟩
    by_cases hji : j = i
    · subst hji; exact hy.wpOp hi hS ⟨fun _ => hS, H⟩
    · have h1 := H.2 j (ready_mono hj hji)
      have h0 := (mem_ready.1 hr).1
      obtain ⟨hjun, oj, hoj, hall⟩ := mem_ready.1 hj
      have hnot : ∀ e ∈ oj.after, Region.binds md e = true → e.on ≠ i := fun e he hb heq => by
        have h1 := hall e he hb
        rw [heq] at h1
        exact getD_flip h0 h1
      have hjX : X.contains j = false := by
        cases hc : X.contains j with
        | false => rfl
        | true =>
          have hm : j ∈ X := by simpa using hc
          exact (late_not_ready h0 n j (List.all_eq_true.1 hX j hm) hj).elim
      have hX' : lateAll md ops (listed.setIfInBounds j true) X n i = true :=
        List.all_eq_true.2 fun j' hj' => late_set h0 hj n j' (List.all_eq_true.1 hX j' hj')
      have h2 := wpOp_putIf hoj (hfree j oj hoj hji hjun hnot) (fun cs b => hsel i oi cs b hi) (fun cs b => hsel j oj cs b hoj) hQ hy h1
      have hfree' : ∀ k ok, ops[k]? = some ok → k ≠ i → (listed.setIfInBounds j true).getD k true = false →
          (∀ e ∈ ok.after, Region.binds md e = true → e.on ≠ i) → oi.apart ops ok = true := fun k ok hk hki hun hno => by
        refine hfree k ok hk hki ?_ hno
        by_cases hjk : j = k
        · subst hjk; exact hjun
        · rw [getD_set_ne true hjk] at hun; exact hun
      refine wpOp_mono (fun a' w' h3 => ⟨fun _ => h3.2.1 hjX, ih (listed.setIfInBounds j true) a' w' hX' hfree' (ready_mono hr (Ne.symm hji)) h3.1 (h3.2.1 hjX) ?_⟩) h2
      rw [Array.setIfInBounds_comm _ _ hji]
      exact h3.2.2

/-- Take number i first, where all of X wait for it, by n others at most. -/
theorem wpAnyX_takeL (n : Nat) {i : Nat} {oi : Oper} {v : Value} {fuel : Nat} {listed : Array Bool} {a : Act} {w : World} (hi : ops[i]? = some oi)
    (hs : Region.noSelect ops = true) (hX : lateAll md ops listed X n i = true) (hf : Region.free md ops listed i = true) (hr : (Region.ready md ops listed).contains i = true)
    (hQ : ∀ c a w, Q (.panic c) (a.put oi.dst v) w → Q (.panic c) a w) (hy : YieldsIf P ops S oi v a) (hS : S w)
    (h : wpAnyX P md ops Q S X fuel (listed.setIfInBounds i true) (a.put oi.dst v) w) : wpAnyX P md ops Q S X (fuel + 1) listed a w :=
  wpAnyX_firstL hi (Region.noSelect_spec hs) hQ fuel listed a w hX (Region.free_spec hi hf) (by simpa using hr) hy hS h
theorem wpAnyX_take3 {i : Nat} {oi : Oper} {v : Value} {fuel : Nat} {listed : Array Bool} {a : Act} {w : World} (hi : ops[i]? = some oi)
    (hs : Region.noSelect ops = true) (hX : lateAll md ops listed X 3 i = true) (hf : Region.free md ops listed i = true) (hr : (Region.ready md ops listed).contains i = true)
    (hQ : ∀ c a w, Q (.panic c) (a.put oi.dst v) w → Q (.panic c) a w) (hy : YieldsIf P ops S oi v a) (hS : S w)
    (h : wpAnyX P md ops Q S X fuel (listed.setIfInBounds i true) (a.put oi.dst v) w) : wpAnyX P md ops Q S X (fuel + 1) listed a w := wpAnyX_takeL 3 hi hs hX hf hr hQ hy hS h
end
end Go.Proofs.Ytjmnbbflahacoaa.Mem
