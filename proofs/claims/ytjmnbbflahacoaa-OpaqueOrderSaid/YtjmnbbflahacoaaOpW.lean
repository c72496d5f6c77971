/- OpaqueWithin, plain. No condition. -/
import Derived.Test.YtjmnbbflahacoaaOpD
namespace Go.Proofs.Ytjmnbbflahacoaa.Opq
open Go.RowKit Go.Proofs.Ytjmnbbflahacoaa.Mem Go.Proofs.Ytjmnbbflahacoaa.Hist Go.Proofs.Ytjmnbbflahacoaa.Model Go.Proofs.Ytjmnbbflahacoaa.PHistTells Go.Proofs.YtjmnbbflahacoaaW.PrintWords
set_option linter.unusedVariables false
set_option linter.unusedSimpArgs false

/-- A try that ended ended behind its beginning. -/
def Btw (ts : List Tr) : Prop := ∀ t ∈ ts, 0 ≤ t.f5 → t.f4 < t.f5
theorem step_btw {l : List Ev} {n : Nat} {ts ts' : List Tr} {e : Ev} (h : ∀ t ∈ ts, TryGood l n t) (hb : Btw ts) (hs : stepM ts n e = some ts') : Btw ts' := by
  unfold stepM at hs
  split at hs
  · split at hs
    · cases hs
    · injection hs with hs
      subst hs
      intro t ht h5
      rw [List.mem_append, List.mem_singleton] at ht
      rcases ht with ht | rfl
      · exact hb t ht h5
      · simp [newTr] at h5
  split at hs
  · split at hs
    · cases hs
    · injection hs with hs
      subst hs
      exact hb
  split at hs
  · rename_i k hk
    split at hs
    · rename_i t ht
      split at hs
      · rw [Option.map_eq_some_iff] at hs
        obtain ⟨t', ht1, ht2⟩ := hs
        subst ht2
        intro u hu h5
        rcases List.mem_or_eq_of_mem_set hu with hu | rfl
        · exact hb u hu h5
        · have hm := List.mem_of_getElem? ht
          have h4 := (turnTr_keeps ht1).2.2.2.2
          rcases turn_ends ht1 with he | he
          · rw [h4, he.1]
            exact hb t hm (by rw [← he.1]; exact h5)
          · rw [h4, he]
            exact (h t hm).b1
      · cases hs
    · cases hs
  · cases hs
theorem readFrom_btw (l : List Ev) : ∀ (m n : Nat) (ts ts' : List Tr), n + m = l.length → (∀ t ∈ ts, TryGood l n t) → Btw ts → readFrom ts n (l.drop n) = some ts' → Btw ts'
  | 0, n, ts, ts', hn, h, hb, hr => by
    rw [List.drop_eq_nil_of_le (by omega)] at hr
    injection hr with hr
    subst hr
    exact hb
  | m + 1, n, ts, ts', hn, h, hb, hr => by
    have hlt : n < l.length := by omega
    rw [List.drop_eq_getElem_cons hlt] at hr
    unfold readFrom at hr
    rw [Option.bind_eq_some_iff] at hr
    obtain ⟨t1, h1, h2⟩ := hr
    exact readFrom_btw l m (n + 1) t1 ts' (by omega) (step_good h (List.getElem?_eq_getElem hlt) h1).1 (step_btw h hb h1) h2
theorem triesM_btw (l : List Ev) : Btw (triesM l) := by
  unfold triesM
  cases h : readM l with
  | none => intro t ht; simp at ht
  | some ts =>
    unfold readM at h
    exact readFrom_btw l l.length 0 [] ts (by omega) (fun t ht => by simp at ht) (fun t ht => by simp at ht) (by simpa using h)
/-- Where a try ended, or the trace. -/
def endM (l : List Ev) (t : Tr) : Int := if t.f5 < 0 then (l.length : Int) else t.f5
theorem aheadM_end (l : List Ev) (t : Tr) : aheadM l t.f5 = beforeM l (endM l t) := by
  unfold aheadM endM
  split <;> rfl
theorem within_one {first : List Int} {l : List Ev} {t : Tr} (ht : t ∈ triesM l) (h0 : 0 ≤ seenI (stsM first l) l t) :
    (beforeM l t.f4 : Int) ≤ seenI (stsM first l) l t ∧ seenI (stsM first l) l t ≤ (beforeM l (endM l t) : Int) ∧ (t.f7 = true → seenI (stsM first l) l t = (beforeM l (endM l t) : Int)) := by
  have hg := (triesM_good l).1 t ht
  have h4 : aheadM l t.f4 = beforeM l t.f4 := by unfold aheadM; rw [if_neg (by have := hg.b0; omega)]
  have hto : toM l t = beforeM l (endM l t) := aheadM_end l t
  have hmono : beforeM l t.f4 ≤ beforeM l (endM l t) := by
    refine beforeM_mono l ?_
    unfold endM
    split
    · have := hg.b1; omega
    · have := triesM_btw l t ht (by omega); omega
  unfold seenI at h0 ⊢
  split at h0
  · rename_i p hp
    have h1 := seenFrom_lt _ _ _ _ _ hp
    cases h7 : t.f7 with
    | true =>
      have hfr : fromM l t = toM l t := by unfold fromM toM; rw [h7]; rfl
      rw [hfr] at h1
      refine ⟨by omega, by omega, fun _ => by omega⟩
    | false =>
      have hfr : fromM l t = beforeM l t.f4 := by unfold fromM; rw [h7]; exact h4
      rw [hfr] at h1
      refine ⟨by omega, by omega, fun h => by cases h⟩
  · omega

theorem before_commit {l : List Ev} {p : Int} {q : Int} (h0 : 0 ≤ p) {x : Ev} (hx : l[p.toNat]? = some x) (hc : x.f0 = 5) (hpq : p < q) : beforeM l p + 1 ≤ beforeM l q := by
  have h1 : beforeM l (p + 1) = beforeM l p + 1 := by
    unfold beforeM
    have hlt := (List.getElem?_eq_some_iff.1 hx).1
    rw [show (p + 1).toNat = p.toNat + 1 by omega, List.take_succ_eq_append_getElem hlt, List.countP_append]
    have he := (List.getElem?_eq_some_iff.1 hx).2
    rw [he]
    simp [hc]
  rw [← h1]
  exact beforeM_mono l (by omega)
theorem ranks_nodup (first : List Int) (l : List Ev) (n : Nat) : (ranksM first l n).Nodup := by
  unfold ranksM
  refine List.pairwise_map.2 (List.nodup_range.imp (fun {a b} hab he => hab ?_))
  have h2 : (rankM first l a).2 = (rankM first l b).2 := by rw [he]
  have e : ∀ i, (rankM first l i).2 = (i : Int) := fun i => by unfold rankM; split <;> rfl
  rw [e, e] at h2
  omega
/-- A thing of an order: its try. -/
theorem order_at {first : List Int} {l : List Ev} {os : List Th} (h : OrderOf first l os) (k : Nat) (hk : k < os.length) : ∃ j t, (triesM l)[j]? = some t ∧ j < (triesM l).length ∧ os[k].2 = (j : Int) ∧ os[k] = rankM first l j := by
  have hm := h.perm.mem_iff.1 (List.getElem_mem hk)
  unfold ranksM at hm
  obtain ⟨j, hj, he⟩ := List.mem_map.1 hm
  have hjl : j < (triesM l).length := by simpa using hj
  refine ⟨j, (triesM l)[j], List.getElem?_eq_getElem hjl, hjl, ?_, he.symm⟩
  rw [← he]
  unfold rankM
  split <;> rfl
theorem order_length {first : List Int} {l : List Ev} {os : List Th} (h : OrderOf first l os) : os.length = (triesM l).length := by
  rw [h.perm.length_eq]
  unfold ranksM
  simp
theorem ends_rise {first : List Int} {l : List Ev} (hr : rightM l = true) {os : List Th} (h : OrderOf first l os) (hs : ∀ t ∈ triesM l, 0 ≤ seenI (stsM first l) l t) {i k a b : Nat} {t u : Tr} (hik : i < k) (hk : k < os.length)
    (ha : (triesM l)[a]? = some t) (hb : (triesM l)[b]? = some u) (hai : (os[i]'(by omega)) = rankM first l a) (hbk : os[k] = rankM first l b) (h7 : t.f7 = true) (g7 : u.f7 = true) : t.f5 < u.f5 := by
  have hle := List.pairwise_iff_getElem.1 h.sorted i k (by omega) hk hik
  have hne : os[i]'(by omega) ≠ os[k] := by
    have hn := (h.perm.nodup_iff.2 (ranks_nodup first l _))
    exact List.pairwise_iff_getElem.1 hn i k (by omega) hk hik
  have hE := ends_of_right hr
  have tm := List.mem_of_getElem? ha
  have um := List.mem_of_getElem? hb
  have t0 := hE.com t tm h7
  have u0 := hE.com u um g7
  have wt := (within_one tm (hs t tm)).2.2 h7
  have wu := (within_one um (hs u um)).2.2 g7
  have et : endM l t = t.f5 := by unfold endM; rw [if_neg (by omega)]
  have eu : endM l u = u.f5 := by unfold endM; rw [if_neg (by omega)]
  rw [et] at wt
  rw [eu] at wu
  have rt := rankM_at (first := first) ha
  have ru := rankM_at (first := first) hb
  rw [h7, wt] at rt
  rw [g7, wu] at ru
  simp only [if_true] at rt ru
  by_cases hlt : t.f5 < u.f5
  · exact hlt
  · exfalso
    by_cases heq : u.f5 = t.f5
    · have hab := hE.one a b t u ha hb t0 heq.symm
      rw [hai, hbk, hab] at hne
      exact hne rfl
    · obtain ⟨x, hx, hx7⟩ := ((triesM_good l).1 u um).ek u0
      rw [g7] at hx7
      have hc := before_commit u0 hx (by simpa using hx7.symm) (show u.f5 < t.f5 by omega)
      rw [hai, hbk, rt, ru] at hle
      unfold leT at hle
      simp only at hle
      omega
/-- The end of the last one of the first k of an order that committed. -/
def lastE (l : List Ev) (os : List Th) : Nat → Int
  | 0 => -1
  | k + 1 => match os[k]? with
    | some z => match (triesM l)[z.2.toNat]? with
      | some t => if t.f7 then t.f5 else lastE l os k
      | none => lastE l os k
    | none => lastE l os k
theorem lastE_next {l : List Ev} {os : List Th} {k j : Nat} {t : Tr} (hk : k < os.length) (hj : os[k].2 = (j : Int)) (ht : (triesM l)[j]? = some t) : lastE l os (k + 1) = if t.f7 then t.f5 else lastE l os k := by
  rw [lastE, List.getElem?_eq_getElem hk]
  simp only [hj, Int.toNat_natCast, ht]
theorem lastE_of {first : List Int} {l : List Ev} {os : List Th} (h : OrderOf first l os) : ∀ k, k ≤ os.length → lastE l os k = -1 ∨ ∃ i a t, ∃ (hi : i < k) (hl : i < os.length), os[i] = rankM first l a ∧ (triesM l)[a]? = some t ∧ t.f7 = true ∧ lastE l os k = t.f5
  | 0, _ => .inl rfl
  | k + 1, hk => by
    obtain ⟨j, t, ht, hjl, hj, he⟩ := order_at h k (by omega)
    rw [lastE_next (by omega) hj ht]
    by_cases h7 : t.f7 = true
    · rw [if_pos h7]
      exact .inr ⟨k, j, t, by omega, by omega, he, ht, h7, rfl⟩
    · rw [if_neg h7]
      rcases lastE_of h k (by omega) with h' | ⟨i, a, u, hi, hl, h1, h2, h3, h4⟩
      · exact .inl h'
      · exact .inr ⟨i, a, u, by omega, hl, h1, h2, h3, h4⟩
theorem last_lt {first : List Int} {l : List Ev} (hr : rightM l = true) {os : List Th} (h : OrderOf first l os) (hs : ∀ t ∈ triesM l, 0 ≤ seenI (stsM first l) l t) {k j : Nat} {t : Tr} (hk : k < os.length) (hj : os[k].2 = (j : Int)) (ht : (triesM l)[j]? = some t) (h7 : t.f7 = true) : lastE l os k < t.f5 := by
  have t0 := (ends_of_right hr).com t (List.mem_of_getElem? ht) h7
  obtain ⟨j', t', ht', _, hj', he⟩ := order_at h k hk
  have hjj : j' = j := by omega
  subst hjj
  rcases lastE_of h k (by omega) with h' | ⟨i, a, u, hi, hl, h1, h2, h3, h4⟩
  · omega
  · rw [h4]
    exact ends_rise hr h hs hi hk h2 ht h1 he h3 h7
end Go.Proofs.Ytjmnbbflahacoaa.Opq
