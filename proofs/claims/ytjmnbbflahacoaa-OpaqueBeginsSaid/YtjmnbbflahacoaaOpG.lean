/- OpaqueBegins, plain. No condition. -/
import Derived.Test.YtjmnbbflahacoaaOpW
namespace Go.Proofs.Ytjmnbbflahacoaa.Opq
open Go.RowKit Go.Proofs.Ytjmnbbflahacoaa.Mem Go.Proofs.Ytjmnbbflahacoaa.Hist Go.Proofs.Ytjmnbbflahacoaa.Model Go.Proofs.Ytjmnbbflahacoaa.PHistTells Go.Proofs.YtjmnbbflahacoaaW.PrintWords
set_option linter.unusedVariables false
set_option linter.unusedSimpArgs false

theorem before_take (l : List Ev) {m : Nat} {p : Int} (h : p ≤ (m : Int)) : beforeM (l.take m) p = beforeM l p := by
  unfold beforeM
  rw [List.take_take, Nat.min_eq_left (by omega)]
theorem seenFrom_same (ss us : List (List Int)) (acc : List Acc) : ∀ (n p : Nat), (∀ q, p ≤ q → q < p + n → ss.getD q [] = us.getD q []) → seenFrom ss acc n p = seenFrom us acc n p
  | 0, p, _ => rfl
  | n + 1, p, h => by
    rw [seenFrom, seenFrom, h p (Nat.le_refl _) (by omega), seenFrom_same ss us acc n (p + 1) (fun q h1 h2 => h q (by omega) (by omega))]
/-- What ended stays. -/
def Stays (ts ts' : List Tr) : Prop := ∀ (i : Nat) (t : Tr), ts[i]? = some t → 0 ≤ t.f5 → ts'[i]? = some t
theorem step_stays {ts ts' : List Tr} {i : Int} {e : Ev} (h : stepM ts i e = some ts') : Stays ts ts' := by
  unfold stepM at h
  split at h
  · split at h
    · cases h
    · injection h with h
      subst h
      intro j t hj _
      rw [List.getElem?_append_left (List.getElem?_eq_some_iff.1 hj).1]
      exact hj
  split at h
  · split at h
    · cases h
    · injection h with h
      subst h
      exact fun j t hj _ => hj
  split at h
  · rename_i k hk
    split at h
    · rename_i u hu
      split at h
      · rename_i hc
        rw [Option.map_eq_some_iff] at h
        obtain ⟨t', ht1, ht2⟩ := h
        subst ht2
        simp only [Bool.and_eq_true, decide_eq_true_eq, beq_iff_eq] at hc
        intro j t hj h5
        have hne : k ≠ j := by
          rintro rfl
          rw [hu] at hj
          injection hj with hj
          subst hj
          omega
        rw [List.getElem?_set_ne hne]
        exact hj
      · cases h
    · cases h
  · cases h
theorem readFrom_stays : ∀ (l : List Ev) (ts ts' : List Tr) (i : Nat), readFrom ts i l = some ts' → Stays ts ts'
  | [], ts, ts', i, h => by
    injection h with h
    subst h
    exact fun j t hj _ => hj
  | e :: l, ts, ts', i, h => by
    unfold readFrom at h
    rw [Option.bind_eq_some_iff] at h
    obtain ⟨t1, h1, h2⟩ := h
    exact fun j t hj h5 => readFrom_stays l t1 ts' (i + 1) h2 j t (step_stays h1 j t hj h5) h5
theorem ended_stay {l : List Ev} (n : Nat) (h : rightM l = true) : Stays (triesM (l.take n)) (triesM l) := by
  unfold rightM at h
  unfold triesM
  unfold readM at *
  have h1 := readFrom_append (l.take n) (l.drop n) [] 0
  rw [List.take_append_drop] at h1
  cases hb : readFrom [] 0 (l.take n) with
  | none =>
    rw [hb] at h1
    rw [h1] at h
    cases h
  | some ts =>
    rw [hb] at h1
    simp only [Option.bind_some] at h1
    cases hl : readFrom ts (0 + (l.take n).length) (l.drop n) with
    | none =>
      rw [hl] at h1
      rw [h1] at h
      cases h
    | some ts' =>
      rw [hl] at h1
      rw [h1]
      exact readFrom_stays _ _ _ _ hl
/-- A try that ended in a beginning is seen there where it is seen in all of it. -/
theorem seen_begin {first : List Int} {l : List Ev} {m : Nat} (hm : m ≤ l.length) (hr : rightM l = true) {t : Tr} (ht : t ∈ triesM (l.take m)) (h5 : 0 ≤ t.f5) :
    seenI (stsM first (l.take m)) (l.take m) t = seenI (stsM first l) l t := by
  have hg := (triesM_good (l.take m)).1 t ht
  have hlen : (l.take m).length = m := by rw [List.length_take]; omega
  have e5 : aheadM (l.take m) t.f5 = aheadM l t.f5 := by
    unfold aheadM
    rw [if_neg (by omega), if_neg (by omega), before_take l (by have := hg.e1; omega)]
  have e4 : aheadM (l.take m) t.f4 = aheadM l t.f4 := by
    unfold aheadM
    have := hg.b0
    rw [if_neg (by omega), if_neg (by omega), before_take l (by have := hg.b1; omega)]
  have hfr : fromM (l.take m) t = fromM l t := by unfold fromM; rw [e5, e4]
  have hto : toM (l.take m) t = toM l t := e5
  obtain ⟨hr2, _⟩ := begins_right m hr
  have hsb := sts_begin first m hm hr
  have hsl := stsM_length first (l.take m)
  rw [commitsM_length _ hr2] at hsl
  have hmost := aheadM_most (l.take m) t.f5
  unfold seenI
  rw [hfr, hto]
  rw [seenFrom_same (stsM first (l.take m)) (stsM first l) t.f8 _ _ (fun q h1 h2 => ?_)]
  have hq : q < (stsM first (l.take m)).length := by
    have : toM l t = aheadM (l.take m) t.f5 := e5.symm
    omega
  rw [← hsb.2, List.getD_eq_getElem?_getD, List.getD_eq_getElem?_getD, List.getElem?_take]
  rw [if_pos hq]
/-- What isn't seen in a beginning hasn't ended there. -/
theorem bad_open {first : List Int} {l : List Ev} {m : Nat} (hm : m ≤ l.length) (he : errM first l = 0) (hb : errM first (l.take m) ≠ 0) :
    errM first (l.take m) = 7 ∧ ∃ (h : badM first (l.take m) < (triesM (l.take m)).length), (triesM (l.take m))[badM first (l.take m)].f5 < 0 ∧ (seenOut first (l.take m)).length = badM first (l.take m) := by
  obtain ⟨hr, _⟩ := bad_of_ok he
  have hall := (seenOut_ok he).2
  obtain ⟨hr2, _⟩ := begins_right m hr
  have hlt : badM first (l.take m) < (triesM (l.take m)).length := by
    by_cases h : badM first (l.take m) < (triesM (l.take m)).length
    · exact h
    · exfalso
      apply hb
      unfold errM
      rw [hr2, if_pos rfl, if_neg h]
  refine ⟨by unfold errM; rw [hr2, if_pos rfl, if_pos hlt], hlt, ?_, ?_⟩
  · by_cases h5 : (triesM (l.take m))[badM first (l.take m)].f5 < 0
    · exact h5
    · exfalso
      have hs := seen_begin (first := first) hm hr (List.getElem_mem hlt) (by omega)
      have hst := ended_stay m hr _ _ (List.getElem?_eq_getElem hlt) (by omega)
      have h0 := hall _ (List.mem_of_getElem? hst)
      have hbad : seenI (stsM first (l.take m)) (l.take m) (triesM (l.take m))[badM first (l.take m)] < 0 := by
        have hfi := List.findIdx_getElem (p := fun t => decide (seenI (stsM first (l.take m)) (l.take m) t < 0)) (xs := triesM (l.take m)) (w := hlt)
        exact of_decide_eq_true hfi
      rw [hs] at hbad
      omega
  · unfold seenOut seenUpTo
    rw [hr2, if_pos rfl, List.length_map, List.length_take]
    omega
end Go.Proofs.Ytjmnbbflahacoaa.Opq
