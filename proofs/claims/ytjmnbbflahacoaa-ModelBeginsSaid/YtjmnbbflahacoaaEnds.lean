/- hist, plain: those that committed are one list: sorted by their ends. No condition. -/
import Derived.Test.YtjmnbbflahacoaaHistP
namespace Go.Proofs.Ytjmnbbflahacoaa.Model
open Go.RowKit Go.Proofs.Ytjmnbbflahacoaa.Mem Go.Proofs.Ytjmnbbflahacoaa.Hist Go.Proofs.Ytjmnbbflahacoaa.PHistTells Go.Proofs.YtjmnbbflahacoaaW.PrintWords
set_option linter.unusedVariables false
set_option linter.unusedSimpArgs false

/-- Ends are places behind us, and each is of one try. -/
structure Ends (n : Nat) (ts : List Tr) : Prop where
  lt : ∀ t ∈ ts, t.f5 < n
  com : ∀ t ∈ ts, t.f7 = true → 0 ≤ t.f5
  one : ∀ (i j : Nat) (t u : Tr), ts[i]? = some t → ts[j]? = some u → 0 ≤ t.f5 → t.f5 = u.f5 → i = j
theorem Ends.start : Ends 0 [] := ⟨fun t h => by simp at h, fun t h => by simp at h, fun i j t u h => by simp at h⟩
theorem turn_ends {t t' : Tr} {n : Nat} {e : Ev} (h : turnTr t (n : Int) e = some t') : (t'.f5 = t.f5 ∧ t'.f7 = t.f7) ∨ t'.f5 = n := by
  unfold turnTr at h
  split at h
  · injection h with h; subst h; exact .inl ⟨rfl, rfl⟩
  split at h
  · injection h with h; subst h; exact .inl ⟨rfl, rfl⟩
  split at h
  · injection h with h; subst h; exact .inr rfl
  split at h
  · injection h with h; subst h; exact .inr rfl
  · cases h
theorem Ends.step {n : Nat} {ts ts' : List Tr} {e : Ev} (h : Ends n ts) (hs : stepM ts n e = some ts') : Ends (n + 1) ts' := by
  unfold stepM at hs
  split at hs
  · split at hs
    · cases hs
    · injection hs with hs
      subst hs
      refine ⟨fun t ht => ?_, fun t ht => ?_, fun i j t u hi hj h0 he => ?_⟩
      · rw [List.mem_append, List.mem_singleton] at ht
        rcases ht with ht | rfl
        · have := h.lt t ht; omega
        · show (-1 : Int) < _; omega
      · rw [List.mem_append, List.mem_singleton] at ht
        rcases ht with ht | rfl
        · exact h.com t ht
        · intro hh; cases hh
      · have hlt : ∀ (i : Nat) (t : Tr), (ts ++ [newTr (n : Int) e])[i]? = some t → 0 ≤ t.f5 → ts[i]? = some t := by
          intro i t hi h0
          rcases Nat.lt_or_ge i ts.length with hl | hl
          · rwa [List.getElem?_append_left hl] at hi
          · rw [List.getElem?_append_right hl] at hi
            have hk0 : i - ts.length = 0 := by
              have := (List.getElem?_eq_some_iff.1 hi).1
              simp at this
              omega
            rw [hk0] at hi
            simp only [List.getElem?_cons_zero, Option.some.injEq] at hi
            subst hi
            have : (0 : Int) ≤ -1 := h0
            omega
        exact h.one i j t u (hlt i t hi h0) (hlt j u hj (by omega)) h0 he
  split at hs
  · split at hs
    · cases hs
    · injection hs with hs
      subst hs
      exact ⟨fun t ht => by have := h.lt t ht; omega, h.com, h.one⟩
  split at hs
  · rename_i k hk
    split at hs
    · rename_i t ht
      split at hs
      · rename_i hc
        rw [Option.map_eq_some_iff] at hs
        obtain ⟨t', ht1, ht2⟩ := hs
        subst ht2
        simp only [Bool.and_eq_true, decide_eq_true_eq, beq_iff_eq] at hc
        have hkl := (List.getElem?_eq_some_iff.1 ht).1
        have htm := List.mem_of_getElem? ht
        have hte := turn_ends ht1
        refine ⟨fun u hu => ?_, fun u hu hu7 => ?_, fun i j a b hi hj h0 he => ?_⟩
        · rcases List.mem_or_eq_of_mem_set hu with hu | rfl
          · have := h.lt u hu; omega
          · have := h.lt t htm
            rcases hte with hte | hte <;> omega
        · rcases List.mem_or_eq_of_mem_set hu with hu | rfl
          · exact h.com u hu hu7
          · rcases hte with hte | hte
            · rw [hte.2] at hu7
              rw [hte.1]
              exact h.com t htm hu7
            · omega
        · by_cases hik : k = i
          · subst hik
            rw [List.getElem?_set_self hkl] at hi
            injection hi with hi
            subst hi
            by_cases hjk : k = j
            · exact hjk
            · rw [List.getElem?_set_ne hjk] at hj
              have h2 := h.lt b (List.mem_of_getElem? hj)
              rcases hte with hte | hte
              · have := hc.1.1; omega
              · omega
          · rw [List.getElem?_set_ne hik] at hi
            have h1 := h.lt a (List.mem_of_getElem? hi)
            by_cases hjk : k = j
            · subst hjk
              rw [List.getElem?_set_self hkl] at hj
              injection hj with hj
              subst hj
              rcases hte with hte | hte
              · have := hc.1.1; omega
              · omega
            · rw [List.getElem?_set_ne hjk] at hj
              exact h.one i j a b hi hj h0 he
      · cases hs
    · cases hs
  · cases hs
theorem readFrom_ends : ∀ (l : List Ev) (n : Nat) (ts ts' : List Tr), Ends n ts → readFrom ts n l = some ts' → Ends (n + l.length) ts'
  | [], n, ts, ts', h, hr => by
    injection hr with hr
    subst hr
    exact h
  | e :: l, n, ts, ts', h, hr => by
    unfold readFrom at hr
    rw [Option.bind_eq_some_iff] at hr
    obtain ⟨t1, h1, h2⟩ := hr
    have := readFrom_ends l (n + 1) t1 ts' (h.step h1) h2
    rw [List.length_cons, show n + (l.length + 1) = n + 1 + l.length by omega]
    exact this
theorem ends_of_right {l : List Ev} (h : rightM l = true) : Ends l.length (triesM l) := by
  unfold rightM at h
  unfold triesM
  cases hr : readM l with
  | none => rw [hr] at h; cases h
  | some ts =>
    have := readFrom_ends l 0 [] ts Ends.start hr
    rwa [Nat.zero_add] at this

/-- Those that committed, by their ends. -/
def commitsM (l : List Ev) : List Tr := (List.range l.length).flatMap (fun i : Nat => (triesM l).filter (fun t => t.f7 && t.f5 == (i : Int)))
theorem split_last : ∀ (cs : List Tr) (n : Nat), cs.Pairwise (fun a b => a.f5 ≤ b.f5) → (∀ t ∈ cs, t.f5 < (n : Int) + 1) → cs = cs.filter (fun t => decide (t.f5 < (n : Int))) ++ cs.filter (fun t => t.f5 == (n : Int))
  | [], n, _, _ => rfl
  | a :: cs, n, hp, hlt => by
    rw [List.pairwise_cons] at hp
    have ih := split_last cs n hp.2 (fun t ht => hlt t (List.mem_cons_of_mem _ ht))
    by_cases h : a.f5 < (n : Int)
    · rw [List.filter_cons, if_pos (by simpa using h), List.filter_cons, if_neg (by simp; omega), List.cons_append, ← ih]
    · have ha : a.f5 = (n : Int) := by have := hlt a List.mem_cons_self; omega
      have hall : ∀ t ∈ a :: cs, t.f5 = (n : Int) := by
        intro t ht
        have h1 := hlt t ht
        rcases List.mem_cons.1 ht with rfl | ht
        · exact ha
        · have := hp.1 t ht; omega
      rw [List.filter_eq_nil_iff.2 (fun t ht => by have := hall t ht; simp; omega), List.filter_eq_self.2 (fun t ht => by have := hall t ht; simpa using this), List.nil_append]
theorem buckets (p : Tr → Bool) : ∀ (n : Nat) (cs : List Tr), cs.Pairwise (fun a b => a.f5 ≤ b.f5) → (∀ t ∈ cs, 0 ≤ t.f5 ∧ t.f5 < (n : Int)) → cs = (List.range n).flatMap (fun i : Nat => cs.filter (fun t => t.f5 == (i : Int)))
  | 0, cs, _, h => by
    cases cs with
    | nil => rfl
    | cons a cs => have := h a List.mem_cons_self; omega
  | n + 1, cs, hp, h => by
    have h1 := split_last cs n hp (fun t ht => by have := (h t ht).2; omega)
    have hd : (cs.filter (fun t => decide (t.f5 < (n : Int)))).Pairwise (fun a b => a.f5 ≤ b.f5) := hp.filter _
    have ih := buckets p n _ hd (fun t ht => by
      have h2 := List.mem_filter.1 ht
      have h3 := (h t h2.1).1
      have h4 : t.f5 < (n : Int) := by simpa using h2.2
      exact ⟨h3, h4⟩)
    rw [List.range_succ, List.flatMap_append]
    have e : (List.range n).flatMap (fun i : Nat => (cs.filter (fun t => decide (t.f5 < (n : Int)))).filter (fun t => t.f5 == (i : Int))) = (List.range n).flatMap (fun i : Nat => cs.filter (fun t => t.f5 == (i : Int))) := by
      rw [List.flatMap_def, List.flatMap_def]
      congr 1
      apply List.map_congr_left
      intro i hi
      rw [List.filter_filter]
      apply List.filter_congr
      intro t _
      have hi' : i < n := by simpa using hi
      by_cases ht : t.f5 = (i : Int)
      · simp [ht]; omega
      · simp [ht]
    rw [e] at ih
    rw [← ih]
    simpa using h1

theorem short_perm {α : Type} {a b : List α} (h : a.Perm b) (hl : a.length ≤ 1) : a = b := by
  match a, hl with
  | [], _ => exact (List.nil_perm.1 h).symm
  | [x], _ => exact (List.singleton_perm.1 h).symm ▸ rfl
theorem short_of {p : Tr → Prop} : ∀ {l : List Tr}, l.Pairwise (fun a b => ¬ (p a ∧ p b)) → (∀ t ∈ l, p t) → l.length ≤ 1
  | [], _, _ => Nat.zero_le _
  | [a], _, _ => Nat.le_refl _
  | a :: b :: l, h, hp => by
    rw [List.pairwise_cons] at h
    exact absurd ⟨hp a (by simp), hp b (by simp)⟩ (h.1 b (by simp))

theorem tries_wrong {l : List Ev} (h : rightM l = false) : triesM l = [] := by
  unfold rightM at h
  unfold triesM
  cases hr : readM l with
  | none => rfl
  | some ts => rw [hr] at h; cases h
theorem commits_is {l : List Ev} {cs : List Tr} (h : CommitsOf l cs) : cs = commitsM l := by
  cases hr : rightM l with
  | false =>
    have hp := h.perm
    unfold ended at hp
    rw [tries_wrong hr] at hp
    have : cs = [] := List.perm_nil.1 hp
    unfold commitsM
    rw [tries_wrong hr, this]
    simp
  | true =>
    have hE := ends_of_right hr
    have hin : ∀ t ∈ cs, t ∈ triesM l ∧ t.f7 = true := fun t ht => by
      have := h.perm.mem_iff.1 ht
      unfold ended at this
      exact List.mem_filter.1 this
    rw [buckets (fun _ => true) l.length cs h.rise (fun t ht => ⟨hE.com t (hin t ht).1 (hin t ht).2, hE.lt t (hin t ht).1⟩)]
    unfold commitsM
    rw [List.flatMap_def, List.flatMap_def]
    congr 1
    apply List.map_congr_left
    intro i hi
    have hp : (cs.filter (fun t => t.f5 == (i : Int))).Perm ((triesM l).filter (fun t => t.f7 && t.f5 == (i : Int))) := by
      have h1 := h.perm.filter (fun t => t.f5 == (i : Int))
      unfold ended at h1
      rw [List.filter_filter] at h1
      have e : (triesM l).filter (fun t => (t.f5 == (i : Int)) && t.f7) = (triesM l).filter (fun t => t.f7 && t.f5 == (i : Int)) := List.filter_congr (fun t _ => Bool.and_comm _ _)
      rw [e] at h1
      exact h1
    refine (short_perm hp.symm ?_).symm
    refine short_of (p := fun t => t.f5 = (i : Int)) ?_ (fun t ht => by
      have := (List.mem_filter.1 ht).2
      simp only [Bool.and_eq_true, beq_iff_eq] at this
      exact this.2)
    refine List.Pairwise.filter _ ?_
    rw [List.pairwise_iff_getElem]
    intro a b ha hb hab hh
    have := hE.one a b _ _ (List.getElem?_eq_getElem ha) (List.getElem?_eq_getElem hb) (by rw [hh.1]; omega) (by rw [hh.1, hh.2])
    omega
theorem commits_len {l : List Ev} {cs : List Tr} (h : CommitsOf l cs) : cs.length ≤ l.length := by
  rw [h.perm.length_eq]
  unfold ended
  have h1 := List.length_filter_le (fun t : Tr => t.f7) (triesM l)
  have h2 : (triesM l).length ≤ l.length := by
    unfold triesM
    cases h : readM l with
    | none => simp
    | some ts => exact readM_length h
  omega
end Go.Proofs.Ytjmnbbflahacoaa.Model
