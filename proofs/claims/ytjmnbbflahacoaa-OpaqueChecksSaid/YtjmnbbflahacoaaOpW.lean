/- OpaqueWithin, plain. No condition. -/
import Derived.Test.YtjmnbbflahacoaaOpD
namespace Go.Proofs.Ytjmnbbflahacoaa.Opq
open Go.RowKit Go.Proofs.Ytjmnbbflahacoaa.Mem Go.Proofs.Ytjmnbbflahacoaa.Hist Go.Proofs.Ytjmnbbflahacoaa.Model Go.Proofs.Ytjmnbbflahacoaa.PHistTells Go.Proofs.YtjmnbbflahacoaaW.PrintWords
set_option linter.unusedVariables false
set_option linter.unusedSimpArgs false

/-- A try that ended ended behind its beginning. -/
def Btw (ts : List Tr) : Prop := ∀ t ∈ ts, 0 ≤ t.f5 → t.f4 < t.f5
theorem step_btw {l : List Ev} {n : Nat} {ts ts' : List Tr} {e : Ev} (h : ∀ t ∈ ts, TryGood l n t) (hb : Btw ts) (hs : stepM ts n e = some ts') : Btw ts' := by
  unfold stepM at hs
  split at hs
  · split at hs
    · cases hs
    · injection hs with hs
      subst hs
      intro t ht h5
      rw [List.mem_append, List.mem_singleton] at ht
      rcases ht with ht | rfl
      · exact hb t ht h5
      · simp [newTr] at h5
  split at hs
  · split at hs
    · cases hs
    · injection hs with hs
      subst hs
      exact hb
  split at hs
  · rename_i k hk
    split at hs
    · rename_i t ht
      split at hs
      · rw [Option.map_eq_some_iff] at hs
        obtain ⟨t', ht1, ht2⟩ := hs
        subst ht2
        intro u hu h5
        rcases List.mem_or_eq_of_mem_set hu with hu | rfl
        · exact hb u hu h5
        · have hm := List.mem_of_getElem? ht
          have h4 := (turnTr_keeps ht1).2.2.2.2
          rcases turn_ends ht1 with he | he
          · rw [h4, he.1]
            exact hb t hm (by rw [← he.1]; exact h5)
          · rw [h4, he]
            exact (h t hm).b1
      · cases hs
    · cases hs
  · cases hs
theorem readFrom_btw (l : List Ev) : ∀ (m n : Nat) (ts ts' : List Tr), n + m = l.length → (∀ t ∈ ts, TryGood l n t) → Btw ts → readFrom ts n (l.drop n) = some ts' → Btw ts'
  | 0, n, ts, ts', hn, h, hb, hr => by
    rw [List.drop_eq_nil_of_le (by omega)] at hr
    injection hr with hr
    subst hr
    exact hb
  | m + 1, n, ts, ts', hn, h, hb, hr => by
    have hlt : n < l.length := by omega
    rw [List.drop_eq_getElem_cons hlt] at hr
    unfold readFrom at hr
    rw [Option.bind_eq_some_iff] at hr
    obtain ⟨t1, h1, h2⟩ := hr
    exact readFrom_btw l m (n + 1) t1 ts' (by omega) (step_good h (List.getElem?_eq_getElem hlt) h1).1 (step_btw h hb h1) h2
theorem triesM_btw (l : List Ev) : Btw (triesM l) := by
  unfold triesM
  cases h : readM l with
  | none => intro t ht; simp at ht
  | some ts =>
    unfold readM at h
    exact readFrom_btw l l.length 0 [] ts (by omega) (fun t ht => by simp at ht) (fun t ht => by simp at ht) (by simpa using h)
/-- Where a try ended, or the trace. -/
def endM (l : List Ev) (t : Tr) : Int := if t.f5 < 0 then (l.length : Int) else t.f5
theorem aheadM_end (l : List Ev) (t : Tr) : aheadM l t.f5 = beforeM l (endM l t) := by
  unfold aheadM endM
  split <;> rfl
theorem within_one {first : List Int} {l : List Ev} {t : Tr} (ht : t ∈ triesM l) (h0 : 0 ≤ seenI (stsM first l) l t) :
    (beforeM l t.f4 : Int) ≤ seenI (stsM first l) l t ∧ seenI (stsM first l) l t ≤ (beforeM l (endM l t) : Int) ∧ (t.f7 = true → seenI (stsM first l) l t = (beforeM l (endM l t) : Int)) := by
  have hg := (triesM_good l).1 t ht
  have h4 : aheadM l t.f4 = beforeM l t.f4 := by unfold aheadM; rw [if_neg (by have := hg.b0; omega)]
  have hto : toM l t = beforeM l (endM l t) := aheadM_end l t
  have hmono : beforeM l t.f4 ≤ beforeM l (endM l t) := by
    refine beforeM_mono l ?_
    unfold endM
    split
    · have := hg.b1; omega
    · have := triesM_btw l t ht (by omega); omega
  unfold seenI at h0 ⊢
  split at h0
  · rename_i p hp
    have h1 := seenFrom_lt _ _ _ _ _ hp
    cases h7 : t.f7 with
    | true =>
      have hfr : fromM l t = toM l t := by unfold fromM toM; rw [h7]; rfl
      rw [hfr] at h1
      refine ⟨by omega, by omega, fun _ => by omega⟩
    | false =>
      have hfr : fromM l t = beforeM l t.f4 := by unfold fromM; rw [h7]; exact h4
      rw [hfr] at h1
      refine ⟨by omega, by omega, fun h => by cases h⟩
  · omega

theorem ranks_nodup (first : List Int) (l : List Ev) (n : Nat) : (ranksM first l n).Nodup := by
  unfold ranksM
  refine List.pairwise_map.2 (List.nodup_range.imp (fun {a b} hab he => hab ?_))
  have h2 : (rankM first l a).2 = (rankM first l b).2 := by rw [he]
  have e : ∀ i, (rankM first l i).2 = (i : Int) := fun i => by unfold rankM; split <;> rfl
  rw [e, e] at h2
  omega
theorem order_length {first : List Int} {l : List Ev} {os : List Th} (h : OrderOf first l os) : os.length = (triesM l).length := by
  rw [h.perm.length_eq]
  unfold ranksM
  simp
end Go.Proofs.Ytjmnbbflahacoaa.Opq
