/- OpaqueSpoilt, plain: a trace of which one reading's value is another one. No condition. -/
import Derived.Test.YtjmnbbflahacoaaOpW
namespace Go.Proofs.Ytjmnbbflahacoaa.Opq
open Go.RowKit Go.Proofs.Ytjmnbbflahacoaa.Mem Go.Proofs.Ytjmnbbflahacoaa.Hist Go.Proofs.Ytjmnbbflahacoaa.Model Go.Proofs.Ytjmnbbflahacoaa.PHistTells Go.Proofs.YtjmnbbflahacoaaW.PrintWords
set_option linter.unusedVariables false
set_option linter.unusedSimpArgs false

def fixA (p v : Int) (a : Acc) : Acc := if a.f0 = p ∧ a.f1 = 2 then { a with f3 := v } else a
def fixT (p v : Int) (t : Tr) : Tr := { t with f8 := t.f8.map (fixA p v) }
def fixE (v : Int) (e : Ev) : Ev := { e with f5 := v }
theorem fixA_keeps (p v : Int) (a : Acc) : (fixA p v a).f0 = a.f0 ∧ (fixA p v a).f1 = a.f1 ∧ (fixA p v a).f2 = a.f2 ∧ (fixA p v a).f4 = a.f4 ∧ (fixA p v a).f5 = a.f5 := by
  unfold fixA; split <;> exact ⟨rfl, rfl, rfl, rfl, rfl⟩
theorem fixA_wrote (p v o : Int) (l : List Acc) : (l.map (fixA p v)).any (wrote o) = l.any (wrote o) := by
  rw [List.any_map]
  congr 1
  funext a
  have h := fixA_keeps p v a
  simp only [Function.comp, wrote, h.2.1, h.2.2.1]
theorem fixA_rel (p v o : Int) (a : Acc) : relAcc o (fixA p v a) = fixA p v (relAcc o a) := by
  have h := fixA_keeps p v a
  have k := relAcc_keeps o a
  unfold relAcc
  rw [h.2.1, h.2.2.1]
  by_cases hc : (a.f1 == 2 && a.f2 == o) = true
  · rw [if_pos hc, if_pos hc]
    unfold fixA
    by_cases hd : a.f0 = p ∧ a.f1 = 2
    · rw [if_pos hd, if_pos hd]
    · rw [if_neg hd, if_neg hd]
  · rw [if_neg hc, if_neg hc]
theorem turn_fix {p v : Int} {t : Tr} {i : Int} {e : Ev} (hi : i ≠ p) : turnTr (fixT p v t) i e = (turnTr t i e).map (fixT p v) := by
  have hacc : accOf (fixT p v t) i e = accOf t i e := by unfold accOf fixT; simp only [fixA_wrote]
  have hfix : fixA p v (accOf t i e) = accOf t i e := by unfold fixA; rw [if_neg (fun h => hi h.1)]
  unfold turnTr
  rw [hacc]
  by_cases h1 : (e.f0 == 2 || e.f0 == 3) = true
  · simp only [h1, if_true, Option.map_some, fixT, withAcc, List.map_append, List.map_cons, List.map_nil, hfix]
  · simp only [h1, if_false, Bool.false_eq_true]
    by_cases h2 : (e.f0 == 4) = true
    · simp only [h2, if_true, Option.map_some, fixT, withAcc, List.map_map]
      congr 2
      apply List.map_congr_left
      intro a _
      exact fixA_rel p v e.f4 a
    · simp only [h2, if_false, Bool.false_eq_true]
      split
      · simp [fixT]
      · split <;> simp [fixT]
theorem turn_fix_at {p v : Int} {t : Tr} {e : Ev} (he : e.f0 = 2) : turnTr (fixT p v t) p (fixE v e) = (turnTr t p e).map (fixT p v) := by
  have hacc : accOf (fixT p v t) p (fixE v e) = fixA p v (accOf t p e) := by
    have h1 : accOf (fixT p v t) p (fixE v e) = ⟨p, e.f0, e.f4, v, e.f0 == 2 && t.f8.any (wrote e.f4), false⟩ := by unfold accOf fixT fixE; simp only [fixA_wrote]
    rw [h1]
    unfold fixA accOf
    rw [if_pos ⟨rfl, he⟩]
  unfold turnTr
  rw [hacc]
  have h1 : (e.f0 == 2 || e.f0 == 3) = true := by rw [he]; rfl
  have h2 : ((fixE v e).f0 == 2 || (fixE v e).f0 == 3) = true := h1
  simp only [h1, h2, if_true, Option.map_some, fixT, withAcc, List.map_append, List.map_cons, List.map_nil]
theorem lastOf_fix (p v th : Int) (ts : List Tr) : lastOf th (ts.map (fixT p v)) = lastOf th ts := by
  unfold lastOf
  rw [List.map_map]
  rfl
theorem isOpen_fix (p v th : Int) (ts : List Tr) : isOpen (ts.map (fixT p v)) th = isOpen ts th := by
  unfold isOpen
  rw [lastOf_fix]
  cases lastOf th ts with
  | none => rfl
  | some k =>
    simp only [List.getElem?_map]
    cases ts[k]? with
    | none => rfl
    | some t => rfl
theorem countOf_fix (p v th tx : Int) (ts : List Tr) : countOf th tx (ts.map (fixT p v)) = countOf th tx ts := by
  unfold countOf
  rw [List.countP_map]
  rfl
theorem step_fix {p v : Int} {ts : List Tr} {i : Int} {e : Ev} (h : i = p → e.f0 = 2) : stepM (ts.map (fixT p v)) i (if i = p then fixE v e else e) = (stepM ts i e).map (fun us => us.map (fixT p v)) := by
  by_cases hi : i = p
  · have he := h hi
    rw [if_pos hi]
    subst hi
    unfold stepM
    have e1 : ((fixE v e).f0 == 1) = false := by show (e.f0 == 1) = false; rw [he]; rfl
    have e2 : (e.f0 == 1) = false := e1
    have e3 : ((fixE v e).f0 == 7) = false := by show (e.f0 == 7) = false; rw [he]; rfl
    have e4 : (e.f0 == 7) = false := e3
    rw [e1, e2, e3, e4]
    simp only [Bool.false_eq_true, if_false]
    show (match lastOf e.f1 (ts.map (fixT i v)) with | some k => _ | none => _) = _
    rw [lastOf_fix]
    cases lastOf e.f1 ts with
    | none => rfl
    | some k =>
      simp only [List.getElem?_map]
      cases ts[k]? with
      | none => rfl
      | some t =>
        simp only [Option.map_some]
        show (if (decide (t.f5 < 0) && t.f1 == e.f2 && t.f2 == e.f3) = true then _ else _) = _
        by_cases hc : (decide (t.f5 < 0) && t.f1 == e.f2 && t.f2 == e.f3) = true
        · rw [if_pos hc, if_pos hc, turn_fix_at he]
          cases turnTr t i e with
          | none => rfl
          | some t' => simp [List.map_set]
        · rw [if_neg hc, if_neg hc]
          rfl
  · rw [if_neg hi]
    unfold stepM
    rw [isOpen_fix, countOf_fix, lastOf_fix]
    by_cases h1 : (e.f0 == 1) = true
    · rw [if_pos h1, if_pos h1]
      split
      · rfl
      · simp [fixT, newTr]
    · rw [if_neg h1, if_neg h1]
      by_cases h7 : (e.f0 == 7) = true
      · rw [if_pos h7, if_pos h7]
        split <;> rfl
      · rw [if_neg h7, if_neg h7]
        cases lastOf e.f1 ts with
        | none => rfl
        | some k =>
          simp only [List.getElem?_map]
          cases ts[k]? with
          | none => rfl
          | some t =>
            simp only [Option.map_some]
            show (if (decide (t.f5 < 0) && t.f1 == e.f2 && t.f2 == e.f3) = true then _ else _) = _
            by_cases hc : (decide (t.f5 < 0) && t.f1 == e.f2 && t.f2 == e.f3) = true
            · rw [if_pos hc, if_pos hc, turn_fix hi]
              cases turnTr t i e with
              | none => rfl
              | some t' => simp [List.map_set]
            · rw [if_neg hc, if_neg hc]
              rfl

/-- The trace from n on, the value at p another one. -/
def fixL (p v : Int) : Nat → List Ev → List Ev
  | _, [] => []
  | n, e :: l => (if (n : Int) = p then fixE v e else e) :: fixL p v (n + 1) l
theorem readFrom_fix {p v : Int} : ∀ (l : List Ev) (n : Nat) (ts : List Tr), (∀ (j : Nat) (e : Ev), l[j]? = some e → ((n + j : Nat) : Int) = p → e.f0 = 2) →
    readFrom (ts.map (fixT p v)) n (fixL p v n l) = (readFrom ts n l).map (fun us => us.map (fixT p v))
  | [], n, ts, _ => rfl
  | e :: l, n, ts, h => by
    rw [fixL, readFrom, readFrom, step_fix (fun hn => h 0 e rfl (by simpa using hn))]
    cases stepM ts n e with
    | none => rfl
    | some us =>
      simp only [Option.map_some, Option.bind_some]
      exact readFrom_fix l (n + 1) us (fun j x hj hp => h (j + 1) x (by simpa using hj) (by rw [← hp]; congr 1; omega))
theorem fixL_set (p : Nat) (v : Int) : ∀ (l : List Ev) (n : Nat), n ≤ p → fixL (p : Int) v n l = (match l[p - n]? with
    | some e => l.set (p - n) (fixE v e)
    | none => l)
  | [], n, _ => by simp [fixL]
  | e :: l, n, h => by
    rw [fixL]
    by_cases hn : n = p
    · subst hn
      rw [if_pos rfl, Nat.sub_self]
      simp only [List.getElem?_cons_zero, List.set_cons_zero]
      congr 1
      have : ∀ (m : List Ev) (k : Nat), n < k → fixL (n : Int) v k m = m := by
        intro m
        induction m with
        | nil => intro k _; rfl
        | cons a m ih => intro k hk; rw [fixL, if_neg (by omega), ih (k + 1) (by omega)]
      exact this l (n + 1) (by omega)
    · rw [if_neg (by omega), fixL_set p v l (n + 1) (by omega)]
      obtain ⟨d, hd⟩ : ∃ d, p - n = d + 1 := ⟨p - n - 1, by omega⟩
      rw [hd, show p - (n + 1) = d by omega, List.getElem?_cons_succ]
      cases l[d]? with
      | none => rfl
      | some x => rfl
/-- The tries of a trace of which a reading's value is another one. -/
theorem tries_fix {l : List Ev} {p : Nat} {e : Ev} (he : l[p]? = some e) (h2 : e.f0 = 2) (v : Int) : readM (l.set p (fixE v e)) = (readM l).map (fun us => us.map (fixT p v)) := by
  have h := readFrom_fix (p := (p : Int)) (v := v) l 0 [] (fun j x hj hp => by
    have : j = p := by omega
    subst this
    rw [he] at hj
    injection hj with hj
    rw [← hj]; exact h2)
  rw [fixL_set p v l 0 (Nat.zero_le _), Nat.sub_zero, he] at h
  exact h
theorem triesM_fix {l : List Ev} {p : Nat} {e : Ev} (he : l[p]? = some e) (h2 : e.f0 = 2) (v : Int) : triesM (l.set p (fixE v e)) = (triesM l).map (fixT p v) := by
  unfold triesM
  rw [tries_fix he h2]
  cases readM l with
  | none => rfl
  | some ts => rfl
theorem rightM_fix {l : List Ev} {p : Nat} {e : Ev} (he : l[p]? = some e) (h2 : e.f0 = 2) (v : Int) : rightM (l.set p (fixE v e)) = rightM l := by
  unfold rightM
  rw [tries_fix he h2]
  cases readM l with
  | none => rfl
  | some ts => rfl

/-- Has a try an access at the place p? -/
def hasP (p : Int) (t : Tr) : Bool := t.f8.any (fun a => a.f0 == p)
def OneP (p : Int) (ts : List Tr) : Prop := ∀ (i j : Nat) (t u : Tr), ts[i]? = some t → ts[j]? = some u → hasP p t = true → hasP p u = true → i = j
theorem turn_hasP {p : Int} {t t' : Tr} {i : Int} {e : Ev} (h : turnTr t i e = some t') (hp : hasP p t' = true) : hasP p t = true ∨ i = p := by
  unfold turnTr at h
  split at h
  · injection h with h
    subst h
    simp only [hasP, withAcc, List.any_append, List.any_cons, List.any_nil, Bool.or_false, Bool.or_eq_true, accOf, beq_iff_eq] at hp ⊢
    exact hp
  split at h
  · injection h with h
    subst h
    left
    simp only [hasP, withAcc, List.any_map] at hp ⊢
    rw [List.any_eq_true] at hp ⊢
    obtain ⟨a, ha, hh⟩ := hp
    refine ⟨a, ha, ?_⟩
    simpa [Function.comp, (relAcc_keeps e.f4 a).1] using hh
  split at h
  · injection h with h
    subst h
    exact .inl hp
  split at h
  · injection h with h
    subst h
    exact .inl hp
  · cases h
theorem step_one {l : List Ev} {n : Nat} {p : Int} {ts ts' : List Tr} {e : Ev} (h : ∀ t ∈ ts, TryGood l n t) (ho : OneP p ts) (hs : stepM ts n e = some ts') : OneP p ts' := by
  unfold stepM at hs
  split at hs
  · split at hs
    · cases hs
    · injection hs with hs
      subst hs
      have key : ∀ (i : Nat) (t : Tr), (ts ++ [newTr (n : Int) e])[i]? = some t → hasP p t = true → ts[i]? = some t := fun i t hi hp => by
        by_cases hl : i < ts.length
        · rwa [List.getElem?_append_left hl] at hi
        · rw [List.getElem?_append_right (by omega)] at hi
          have h0 := List.mem_of_getElem? hi
          rw [List.mem_singleton] at h0
          subst h0
          simp [hasP, newTr] at hp
      exact fun i j t u hi hj h1 h2 => ho i j t u (key i t hi h1) (key j u hj h2) h1 h2
  split at hs
  · split at hs
    · cases hs
    · injection hs with hs
      subst hs
      exact ho
  split at hs
  · rename_i k hk
    split at hs
    · rename_i t0 ht0
      split at hs
      · rw [Option.map_eq_some_iff] at hs
        obtain ⟨t', ht1, ht2⟩ := hs
        subst ht2
        have hkl := (List.getElem?_eq_some_iff.1 ht0).1
        by_cases hnp : (n : Int) = p
        · have hno : ∀ t ∈ ts, hasP p t = false := fun t ht => by
            unfold hasP
            rw [List.any_eq_false]
            intro a ha
            have := ((h t ht).acc a ha).lt
            simp; omega
          have key : ∀ (i : Nat) (t : Tr), (ts.set k t')[i]? = some t → hasP p t = true → i = k := fun i t hi hp => by
            by_cases hik : k = i
            · exact hik.symm
            · rw [List.getElem?_set_ne hik] at hi
              rw [hno t (List.mem_of_getElem? hi)] at hp
              cases hp
          exact fun i j t u hi hj h1 h2 => (key i t hi h1).trans (key j u hj h2).symm
        · have key : ∀ (i : Nat) (t : Tr), (ts.set k t')[i]? = some t → hasP p t = true → ∃ t1, ts[i]? = some t1 ∧ hasP p t1 = true := fun i t hi hp => by
            by_cases hik : k = i
            · subst hik
              rw [List.getElem?_set_self hkl] at hi
              injection hi with hi
              subst hi
              rcases turn_hasP ht1 hp with h' | h'
              · exact ⟨t0, ht0, h'⟩
              · exact absurd h' hnp
            · rw [List.getElem?_set_ne hik] at hi
              exact ⟨t, hi, hp⟩
          intro i j t u hi hj h1 h2
          obtain ⟨t1, a1, b1⟩ := key i t hi h1
          obtain ⟨u1, a2, b2⟩ := key j u hj h2
          exact ho i j t1 u1 a1 a2 b1 b2
      · cases hs
    · cases hs
  · cases hs
theorem readFrom_one (l : List Ev) (p : Int) : ∀ (m n : Nat) (ts ts' : List Tr), n + m = l.length → (∀ t ∈ ts, TryGood l n t) → OneP p ts → readFrom ts n (l.drop n) = some ts' → OneP p ts'
  | 0, n, ts, ts', hn, h, hb, hr => by
    rw [List.drop_eq_nil_of_le (by omega)] at hr
    injection hr with hr
    subst hr
    exact hb
  | m + 1, n, ts, ts', hn, h, hb, hr => by
    have hlt : n < l.length := by omega
    rw [List.drop_eq_getElem_cons hlt] at hr
    unfold readFrom at hr
    rw [Option.bind_eq_some_iff] at hr
    obtain ⟨t1, h1, h2⟩ := hr
    exact readFrom_one l p m (n + 1) t1 ts' (by omega) (step_good h (List.getElem?_eq_getElem hlt) h1).1 (step_one h hb h1) h2
/-- No two tries have an access at one place. -/
theorem triesM_one (l : List Ev) (p : Int) : OneP p (triesM l) := by
  unfold triesM
  cases h : readM l with
  | none => intro i j t u hi; simp at hi
  | some ts =>
    unfold readM at h
    exact readFrom_one l p l.length 0 [] ts (by omega) (fun t ht => by simp at ht) (fun i j t u hi => by simp at hi) (by simpa using h)
theorem fixT_no {p v : Int} {t : Tr} (h : hasP p t = false) : fixT p v t = t := by
  unfold fixT
  have : t.f8.map (fixA p v) = t.f8 := by
    conv => rhs; rw [← List.map_id t.f8]
    apply List.map_congr_left
    intro a ha
    unfold hasP at h
    rw [List.any_eq_false] at h
    have := h a ha
    unfold fixA
    rw [if_neg (fun hh => this (by simp [hh.1]))]
    rfl
  rw [this]
theorem applyM_fix (p v : Int) (l : List Acc) : ∀ vs, applyM vs (l.map (fixA p v)) = applyM vs l := by
  induction l with
  | nil => intro vs; rfl
  | cons a l ih =>
    intro vs
    have h1 : put1 vs (fixA p v a) = put1 vs a := by
      have k := fixA_keeps p v a
      unfold put1
      rw [k.2.1, k.2.2.1]
      by_cases hc : a.f1 = 3 ∧ 0 ≤ a.f2 ∧ a.f2 < (vs.length : Int)
      · rw [if_pos hc, if_pos hc]
        unfold fixA
        rw [if_neg (fun hh => by omega)]
      · rw [if_neg hc, if_neg hc]
    show applyM (put1 vs (fixA p v a)) (l.map (fixA p v)) = applyM (put1 vs a) l
    rw [h1, ih]
theorem foldM_fix (p v : Int) (ts : List Tr) : ∀ first, foldM first (ts.map (fixT p v)) = foldM first ts := by
  induction ts with
  | nil => intro first; rfl
  | cons t ts ih =>
    intro first
    show foldM (applyM first (t.f8.map (fixA p v))) (ts.map (fixT p v)) = foldM (applyM first t.f8) ts
    rw [applyM_fix, ih]
theorem commitsM_fix {l : List Ev} {p : Nat} {e : Ev} (he : l[p]? = some e) (h2 : e.f0 = 2) (v : Int) : commitsM (l.set p (fixE v e)) = (commitsM l).map (fixT p v) := by
  unfold commitsM
  rw [triesM_fix he h2, List.length_set, List.map_flatMap]
  congr 1
  funext i
  rw [List.filter_map]
  rfl
theorem stsM_fix {l : List Ev} {p : Nat} {e : Ev} (he : l[p]? = some e) (h2 : e.f0 = 2) (v : Int) (first : List Int) : stsM first (l.set p (fixE v e)) = stsM first l := by
  unfold stsM
  rw [commitsM_fix he h2, List.length_map]
  unfold stsUpTo
  congr 1
  apply List.map_congr_left
  intro i _
  rw [← List.map_take, foldM_fix]
theorem beforeM_fix {l : List Ev} {p : Nat} {e : Ev} (he : l[p]? = some e) (h2 : e.f0 = 2) (v : Int) (q : Int) : beforeM (l.set p (fixE v e)) q = beforeM l q := by
  unfold beforeM
  have hf : (l.set p (fixE v e)).map (fun e => e.f0) = l.map (fun e => e.f0) := by
    apply List.ext_getElem?
    intro i
    simp only [List.getElem?_map]
    by_cases hi : p = i
    · subst hi
      have hlt := (List.getElem?_eq_some_iff.1 he).1
      rw [List.getElem?_set_self hlt, he]
      rfl
    · rw [List.getElem?_set_ne hi]
  have e1 : ∀ m : List Ev, (m.take q.toNat).countP (fun e => e.f0 == 5) = ((m.map (fun e => e.f0)).take q.toNat).countP (fun x => x == 5) := fun m => by
    rw [← List.map_take, List.countP_map]
    rfl
  rw [e1, e1, hf]

theorem aheadM_fix {l : List Ev} {p : Nat} {e : Ev} (he : l[p]? = some e) (h2 : e.f0 = 2) (v : Int) (q : Int) : aheadM (l.set p (fixE v e)) q = aheadM l q := by
  unfold aheadM
  rw [beforeM_fix he h2, List.length_set, beforeM_fix he h2]
theorem seen_other {first : List Int} {l : List Ev} {p : Nat} {e : Ev} (he : l[p]? = some e) (h2 : e.f0 = 2) (v : Int) {t : Tr} (ht : hasP p t = false) :
    seenI (stsM first (l.set p (fixE v e))) (l.set p (fixE v e)) (fixT p v t) = seenI (stsM first l) l t := by
  rw [fixT_no ht, stsM_fix he h2]
  unfold seenI toM fromM
  rw [aheadM_fix he h2, aheadM_fix he h2]
theorem seenFrom_none {ss : List (List Int)} {acc : List Acc} : ∀ (n p : Nat), (∀ q, p ≤ q → q < p + n → fitsM (ss.getD q []) acc = false) → seenFrom ss acc n p = none
  | 0, p, _ => rfl
  | n + 1, p, h => by
    rw [seenFrom, h p (Nat.le_refl _) (by omega)]
    exact seenFrom_none n (p + 1) (fun q h1 h2 => h q (by omega) (by omega))
theorem fits_spoilt {us : List Int} {l : List Acc} {i : Nat} {a : Acc} (p v : Int) (hp : a.f0 = p) (ha : l[i]? = some a) (h1 : a.f1 = 2) (h4 : a.f4 = false) (h5 : a.f5 = false) (hv : valAt us a.f2 ≠ some v) : fitsM us (l.map (fixA p v)) = false := by
  have hi := (List.getElem?_eq_some_iff.1 ha).1
  have hi' : i < (l.map (fixA p v)).length := by simpa using hi
  refine fits_no us _ hi' ?_
  have hg : (l.map (fixA p v))[i] = ⟨a.f0, 2, a.f2, v, false, false⟩ := by
    rw [List.getElem_map, (List.getElem?_eq_some_iff.1 ha).2]
    unfold fixA
    rw [if_pos ⟨hp, h1⟩]
    cases a
    simp only at h1 h4 h5
    simp [h1, h4, h5]
  rw [hg]
  cases ho : ownOf ((l.map (fixA p v)).take i) a.f2 with
  | some y => rw [okAt_own us _ a.f0 2 a.f2 v false rfl ho]; rfl
  | none =>
    rw [okAt_not us _ a.f0 2 a.f2 v false rfl ho]
    simpa using hv
theorem spoilt {first : List Int} {l : List Ev} (hok : errM first l = 0) {w : Nat} {x : Tr} (hx : (triesM l)[w]? = some x) {i : Nat} {a : Acc} (ha : x.f8[i]? = some a) (h1 : a.f1 = 2) (h4 : a.f4 = false) (h5 : a.f5 = false) (h0 : 0 ≤ a.f2) (ho : a.f2 < (first.length : Int)) (v : Int)
    (hno : ∀ (k : Nat) (s : List Int), (stsM first l)[k]? = some s → s[a.f2.toNat]? = some v → x.f7 = true ∧ (k : Int) ≠ (beforeM l x.f5 : Int)) {e : Ev} (he : l[a.f0.toNat]? = some e) :
    0 ≤ a.f0 ∧ e.f0 = 2 ∧ errM first (l.set a.f0.toNat (fixE v e)) = 7 ∧ checkRes first (l.set a.f0.toNat (fixE v e)) = (w : Int) := by
  have hxm := List.mem_of_getElem? hx
  have hg := (triesM_good l).1 x hxm
  have hga := hg.acc a (List.mem_of_getElem? ha)
  have hp0 : 0 ≤ a.f0 := by have := hga.after; have := hg.b0; omega
  have he2 : e.f0 = 2 := by
    obtain ⟨y, hy, hy0, _⟩ := hga.ev
    rw [he] at hy
    injection hy with hy
    rw [hy, hy0, h1]
  obtain ⟨p, hp⟩ : ∃ p : Nat, a.f0 = (p : Int) := ⟨a.f0.toNat, by omega⟩
  have hpn : a.f0.toNat = p := by omega
  rw [hpn] at he ⊢
  obtain ⟨hr, _⟩ := bad_of_ok hok
  have hall := (seenOut_ok hok).2
  have hwl := (List.getElem?_eq_some_iff.1 hx).1
  have hxe := (List.getElem?_eq_some_iff.1 hx).2
  have hxp : hasP p x = true := by
    unfold hasP
    rw [List.any_eq_true]
    exact ⟨a, List.mem_of_getElem? ha, by simp [hp]⟩
  have hsl := stsM_length first l
  rw [commitsM_length l hr] at hsl
  have hse := stsM_each first l
  have hval : ∀ q, q < (stsM first l).length → (x.f7 = true → (q : Int) = (beforeM l x.f5 : Int)) → fitsM ((stsM first l).getD q []) (x.f8.map (fixA p v)) = false := fun q hq hc => by
    refine fits_spoilt p v hp ha h1 h4 h5 (fun hv => ?_)
    rw [List.getD_eq_getElem?_getD, List.getElem?_eq_getElem hq] at hv
    unfold valAt at hv
    rw [if_pos h0] at hv
    obtain ⟨h7, hk⟩ := hno q _ (List.getElem?_eq_getElem hq) hv
    exact hk (hc h7)
  have hun : seenI (stsM first (l.set p (fixE v e))) (l.set p (fixE v e)) (fixT p v x) = -1 := by
    rw [stsM_fix he he2]
    have hto : toM (l.set p (fixE v e)) (fixT p v x) = toM l x := aheadM_fix he he2 v _
    have hfr : fromM (l.set p (fixE v e)) (fixT p v x) = fromM l x := by
      unfold fromM
      rw [aheadM_fix he he2, aheadM_fix he he2]
      rfl
    unfold seenI
    rw [hto, hfr, seenFrom_none]
    intro q hq1 hq2
    have hm := aheadM_most l x.f5
    have htl : toM l x ≤ beforeM l l.length := hm
    refine hval q (by omega) (fun h7 => ?_)
    have hfr2 : fromM l x = toM l x := by unfold fromM toM; rw [h7]; rfl
    have h50 := (ends_of_right hr).com x hxm h7
    have : toM l x = beforeM l x.f5 := by unfold toM aheadM; rw [if_neg (by omega)]
    omega
  have htm := triesM_fix he he2 v
  have hlen : (triesM (l.set p (fixE v e))).length = (triesM l).length := by rw [htm, List.length_map]
  have hbad : badM first (l.set p (fixE v e)) = w := by
    refine bad_at (by rw [hlen]; exact hwl) (fun j hj hjw => ?_) ?_
    · have hjl : j < (triesM l).length := by rw [hlen] at hj; exact hj
      have hge : (triesM (l.set p (fixE v e)))[j] = fixT p v (triesM l)[j] := by simp only [htm, List.getElem_map]
      rw [hge]
      have hn : hasP p (triesM l)[j] = false := by
        cases hh : hasP p (triesM l)[j] with
        | false => rfl
        | true =>
          have := triesM_one l p j w _ _ (List.getElem?_eq_getElem hjl) hx hh hxp
          omega
      rw [seen_other he he2 v hn]
      have := hall _ (List.getElem_mem hjl)
      omega
    · have hge : (triesM (l.set p (fixE v e)))[w]'(by rw [hlen]; exact hwl) = fixT p v x := by simp only [htm, List.getElem_map, hxe]
      rw [hge, hun]
      omega
  have herr : errM first (l.set p (fixE v e)) = 7 := by
    unfold errM
    rw [rightM_fix he he2, hr, if_pos rfl, hbad, hlen, if_pos hwl]
  refine ⟨hp0, he2, herr, ?_⟩
  unfold checkRes
  rw [herr, if_neg (by decide)]
  unfold seenOut seenUpTo
  rw [rightM_fix he he2, hr, if_pos rfl, hbad, List.length_map, List.length_take, hlen]
  omega
end Go.Proofs.Ytjmnbbflahacoaa.Opq
