/- hist, plain: a right trace's tries and its events: begins, ends, who is open. No condition. -/
import Derived.Test.YtjmnbbflahacoaaBegins
import Derived.Test.YtjmnbbflahacoaaPHistTellsx2
namespace Go.Proofs.Ytjmnbbflahacoaa.Hist
open Go.RowKit Go.Proofs.Ytjmnbbflahacoaa.Mem Go.Proofs.Ytjmnbbflahacoaa.PHistTells
set_option linter.unusedVariables false
set_option linter.unusedSimpArgs false

/-- An event that ends a try of the thread th. -/
def endsOf (th : Int) (e : Ev) : Prop := e.f1 = th ∧ (e.f0 = 5 ∨ e.f0 = 6)
/-- Is an EvBegin at the place? -/
def beginAt (l : List Ev) (j : Nat) : Bool := match l[j]? with
  | some e => e.f0 == 1
  | none => false
theorem beginAt_of {l : List Ev} {n : Nat} {e : Ev} (h : l[n]? = some e) : beginAt l n = (e.f0 == 1) := by unfold beginAt; rw [h]
/-- The tries of a trace's first n events, held against the events. -/
structure Traced (l : List Ev) (n : Nat) (ts : List Tr) : Prop where
  begins : ts.map (·.f4) = ((List.range n).filter (beginAt l)).map (fun j : Nat => (j : Int))
  ev : ∀ t ∈ ts, ∃ b : Nat, ∃ e, t.f4 = (b : Int) ∧ b < n ∧ l[b]? = some e ∧ e.f0 = 1 ∧ t.f0 = e.f1 ∧ t.f1 = e.f2 ∧ t.f2 = e.f3 ∧ t.f3 = e.f5
  last : ∀ (k : Nat) (t : Tr), ts[k]? = some t → t.f5 < 0 → lastOf t.f0 ts = some k
  shut : ∀ (k : Nat) (t : Tr), ts[k]? = some t → lastOf t.f0 ts = some k → (t.f5 < 0 ↔ ∀ (j : Nat) (e : Ev), t.f4 < j → j < n → l[j]? = some e → ¬ endsOf t.f0 e)

theorem range_filter_next (n : Nat) (p : Nat → Bool) : (List.range (n + 1)).filter p = (List.range n).filter p ++ (if p n then [n] else []) := by
  rw [List.range_succ, List.filter_append]
  cases h : p n <;> simp [h]

theorem isOpen_at {ts : List Tr} {th : Int} {k : Nat} {t : Tr} (hl : lastOf th ts = some k) (ht : ts[k]? = some t) (ho : t.f5 < 0) : isOpen ts th = true := by
  unfold isOpen
  rw [hl]
  simp [ht, ho]
theorem lastOf_thread {th : Int} {ts : List Tr} {k : Nat} {t : Tr} (hl : lastOf th ts = some k) (ht : ts[k]? = some t) : t.f0 = th := by
  have := (lastIx_spec th _ k hl).1
  rw [List.getElem?_map, ht] at this
  simpa using this

theorem Traced.stay {l : List Ev} {n : Nat} {ts : List Tr} {e : Ev} (h : Traced l n ts) (he : l[n]? = some e) (h1 : e.f0 ≠ 1) (h5 : e.f0 ≠ 5) (h6 : e.f0 ≠ 6) : Traced l (n + 1) ts := by
  refine ⟨?_, fun t ht => ?_, h.last, fun k t hk hl => ?_⟩
  · rw [range_filter_next, beginAt_of he, h.begins]
    simp [h1]
  · obtain ⟨b, e', x1, x2, x3⟩ := h.ev t ht
    exact ⟨b, e', x1, by omega, x3⟩
  · rw [h.shut k t hk hl]
    constructor
    · intro hh j e' hj hjn hje
      by_cases hn : j = n
      · subst hn
        rw [he] at hje
        injection hje with hje
        subst hje
        rintro ⟨_, h | h⟩
        · exact h5 h
        · exact h6 h
      · exact hh j e' hj (by omega) hje
    · exact fun hh j e' hj hjn hje => hh j e' hj (by omega) hje

theorem Traced.step {l : List Ev} {n : Nat} {ts ts' : List Tr} {e : Ev} (h : Traced l n ts) (he : l[n]? = some e) (hs : stepM ts n e = some ts') : Traced l (n + 1) ts' := by
  unfold stepM at hs
  split at hs
  · rename_i h1
    have h1' := beq_iff_eq.1 h1
    split at hs
    · cases hs
    · rename_i hc
      injection hs with hs
      subst hs
      have hno : isOpen ts e.f1 = false := by
        cases hh : isOpen ts e.f1 with
        | false => rfl
        | true => exact absurd (by rw [hh]; rfl) hc
      refine ⟨?_, fun t ht => ?_, fun k t hk ho => ?_, fun k t hk hl => ?_⟩
      · rw [range_filter_next, beginAt_of he, List.map_append, h.begins, h1, if_pos rfl, List.map_append]; rfl
      · rw [List.mem_append, List.mem_singleton] at ht
        rcases ht with ht | rfl
        · obtain ⟨b, e', x1, x2, x3⟩ := h.ev t ht
          exact ⟨b, e', x1, by omega, x3⟩
        · exact ⟨n, e, rfl, by omega, he, h1', rfl, rfl, rfl, rfl⟩
      · rw [lastOf_snoc]
        rcases Nat.lt_or_ge k ts.length with hlt | hge
        · rw [List.getElem?_append_left hlt] at hk
          have hl := h.last k t hk ho
          by_cases hth : (newTr n e).f0 = t.f0
          · have : isOpen ts e.f1 = true := isOpen_at (by rw [show e.f1 = t.f0 from hth]; exact hl) hk ho
            rw [hno] at this; cases this
          · rw [if_neg (by simpa using hth)]; exact hl
        · rw [List.getElem?_append_right hge] at hk
          have hk0 : k - ts.length = 0 := by
            have := (List.getElem?_eq_some_iff.1 hk).1
            simp at this
            omega
          rw [hk0] at hk
          simp only [List.getElem?_cons_zero, Option.some.injEq] at hk
          subst hk
          rw [if_pos (by simp), show k = ts.length by omega]
      · rw [lastOf_snoc] at hl
        rcases Nat.lt_or_ge k ts.length with hlt | hge
        · rw [List.getElem?_append_left hlt] at hk
          have hth : ¬ (newTr n e).f0 = t.f0 := by
            intro hth
            rw [if_pos (by simpa using hth)] at hl
            injection hl with hl
            omega
          rw [if_neg (by simpa using hth)] at hl
          rw [h.shut k t hk hl]
          constructor
          · intro hh j e' hj hjn hje
            by_cases hn : j = n
            · subst hn
              rw [he] at hje
              injection hje with hje
              subst hje
              exact fun hq => hth hq.1
            · exact hh j e' hj (by omega) hje
          · exact fun hh j e' hj hjn hje => hh j e' hj (by omega) hje
        · rw [List.getElem?_append_right hge] at hk
          have hk0 : k - ts.length = 0 := by
            have := (List.getElem?_eq_some_iff.1 hk).1
            simp at this
            omega
          rw [hk0] at hk
          simp only [List.getElem?_cons_zero, Option.some.injEq] at hk
          subst hk
          constructor
          · intro _ j e' hj hjn _
            have : (n : Int) < (j : Int) := hj
            omega
          · intro _
            show (-1 : Int) < 0
            omega
  split at hs
  · rename_i h1 h7
    have h7' := beq_iff_eq.1 h7
    split at hs
    · cases hs
    · injection hs with hs
      subst hs
      exact h.stay he (by rw [h7']; decide) (by rw [h7']; decide) (by rw [h7']; decide)
  split at hs
  · rename_i h1 h7 _ k hk
    have h1' : e.f0 ≠ 1 := fun hh => h1 (beq_iff_eq.2 hh)
    split at hs
    · rename_i t ht
      split at hs
      · rename_i hc
        rw [Option.map_eq_some_iff] at hs
        obtain ⟨t', ht1, ht2⟩ := hs
        subst ht2
        simp only [Bool.and_eq_true, decide_eq_true_eq, beq_iff_eq] at hc
        obtain ⟨⟨ho, _⟩, _⟩ := hc
        have hth := lastOf_thread hk ht
        obtain ⟨k0, k1, k2, k3, k4⟩ := turnTr_keeps ht1
        have hlt : k < ts.length := (List.getElem?_eq_some_iff.1 ht).1
        have hlo : ∀ th, lastOf th (ts.set k t') = lastOf th ts := fun th => lastOf_set th ts k t t' ht k0
        refine ⟨?_, fun u hu => ?_, fun j u hj hu => ?_, fun j u hj hl => ?_⟩
        · rw [range_filter_next, beginAt_of he, map_set_same (fun t : Tr => t.f4) ts k t t' ht k4, h.begins]
          simp [h1']
        · rcases List.mem_or_eq_of_mem_set hu with hu | rfl
          · obtain ⟨b, e', x1, x2, x3⟩ := h.ev u hu
            exact ⟨b, e', x1, by omega, x3⟩
          · obtain ⟨b, e', x1, x2, x3, x4, x5, x6, x7, x8⟩ := h.ev t (List.mem_of_getElem? ht)
            exact ⟨b, e', k4.trans x1, by omega, x3, x4, k0.trans x5, k1.trans x6, k2.trans x7, k3.trans x8⟩
        · rw [hlo]
          by_cases hjk : j = k
          · subst hjk
            rw [List.getElem?_set_self hlt] at hj
            injection hj with hj
            subst hj
            rw [k0, hth]; exact hk
          · rw [List.getElem?_set_ne (Ne.symm hjk)] at hj
            exact h.last j u hj hu
        · rw [hlo] at hl
          by_cases hjk : j = k
          · subst hjk
            rw [List.getElem?_set_self hlt] at hj
            injection hj with hj
            subst hj
            have hold := (h.shut j t ht (by rw [hth]; exact hk)).1 ho
            have hb : t.f4 < n := by
              obtain ⟨b, _, x1, x2, _⟩ := h.ev t (List.mem_of_getElem? ht)
              omega
            rw [k0, k4]
            by_cases hend : e.f0 = 5 ∨ e.f0 = 6
            · have h5n : t'.f5 = n := by
                unfold turnTr at ht1
                rw [if_neg (by rcases hend with hh | hh <;> rw [hh] <;> decide), if_neg (by rcases hend with hh | hh <;> rw [hh] <;> decide)] at ht1
                rcases hend with hh | hh
                · rw [if_pos (by rw [hh]; rfl)] at ht1
                  injection ht1 with ht1; subst ht1; rfl
                · rw [if_neg (by rw [hh]; decide), if_pos (by rw [hh]; rfl)] at ht1
                  injection ht1 with ht1; subst ht1; rfl
              constructor
              · intro hh; omega
              · intro hh
                exact absurd ⟨hth.symm, hend⟩ (hh n e hb (by omega) he)
            · have h5s : t'.f5 = t.f5 := by
                unfold turnTr at ht1
                split at ht1
                · injection ht1 with ht1; subst ht1; rfl
                split at ht1
                · injection ht1 with ht1; subst ht1; rfl
                split at ht1
                · rename_i hh; exact absurd (.inl (beq_iff_eq.1 hh)) hend
                split at ht1
                · rename_i hh; exact absurd (.inr (beq_iff_eq.1 hh)) hend
                · cases ht1
              rw [h5s]
              refine ⟨fun _ i' e' hi hin hie => ?_, fun _ => ho⟩
              by_cases hn : i' = n
              · subst hn
                rw [he] at hie
                injection hie with hie
                subst hie
                exact fun hq => hend hq.2
              · exact hold i' e' hi (by omega) hie
          · rw [List.getElem?_set_ne (Ne.symm hjk)] at hj
            have hne : u.f0 ≠ e.f1 := by
              intro hh
              rw [hh, hk] at hl
              injection hl with hl
              exact hjk hl.symm
            rw [h.shut j u hj hl]
            constructor
            · intro hh i' e' hi hin hie
              by_cases hn : i' = n
              · subst hn
                rw [he] at hie
                injection hie with hie
                subst hie
                exact fun hq => hne hq.1.symm
              · exact hh i' e' hi (by omega) hie
            · exact fun hh i' e' hi hin hie => hh i' e' hi (by omega) hie
      · cases hs
    · cases hs
  · cases hs
end Go.Proofs.Ytjmnbbflahacoaa.Hist
/- hist, plain: the document's 'last' and 'open', of a right trace's tries. No condition. -/
namespace Go.Proofs.Ytjmnbbflahacoaa.Hist
open Go.RowKit Go.Proofs.Ytjmnbbflahacoaa.Mem Go.Proofs.Ytjmnbbflahacoaa.PHistTells Go.Proofs.YtjmnbbflahacoaaW.PrintWords
set_option linter.unusedVariables false
set_option linter.unusedSimpArgs false

theorem rd_ev {l : List Ev} {j : Nat} (h : j < l.length) : rd_T31 l (j : Int) = l[j] := by unfold rd_T31; simp [List.getD, h]
theorem wrap_pred {n : Nat} (h : n ≤ 1000000000) : wrap64 ((n : Int) - 1) = (n : Int) - 1 := IntWalk.wrap64_in _ (by omega)
theorem wrap_succ {n : Int} (h0 : -1 ≤ n) (h : n ≤ 1000000000) : wrap64 (n + 1) = n + 1 := IntWalk.wrap64_in _ (by omega)

/-- The place of a thread's last EvBegin, of the first n events; below 0: none. -/
def lastB (l : List Ev) (th : Int) : Nat → Int
  | 0 => -1
  | n + 1 => match l[n]? with
    | some e => if e.f0 = 1 ∧ e.f1 = th then (n : Int) else lastB l th n
    | none => lastB l th n

theorem lastB_next {l : List Ev} {th : Int} {n : Nat} (h : n < l.length) : lastB l th (n + 1) = if l[n].f0 = 1 ∧ l[n].f1 = th then (n : Int) else lastB l th n := by
  show (match l[n]? with
    | some e => if e.f0 = 1 ∧ e.f1 = th then (n : Int) else lastB l th n
    | none => lastB l th n) = _
  rw [List.getElem?_eq_getElem h]
theorem last_fuel (l : List Ev) (th : Int) (hl : l.length ≤ 1000000000) : ∀ n, n ≤ l.length → ∀ k, n + 1 ≤ k → quarrelref17_last.l0 k l th ((n : Int) - 1) = some (lastB l th n)
  | 0, _, k, hk => by
    obtain ⟨k, rfl⟩ : ∃ k', k = k' + 1 := ⟨k - 1, by omega⟩
    unfold quarrelref17_last.l0
    rw [if_neg (by simp)]
    rfl
  | n + 1, hn, k, hk => by
    obtain ⟨k, rfl⟩ : ∃ k', k = k' + 1 := ⟨k - 1, by omega⟩
    have ih := last_fuel l th hl n (by omega) k (by omega)
    have hlt : n < l.length := by omega
    unfold quarrelref17_last.l0
    rw [show ((n + 1 : Nat) : Int) - 1 = (n : Int) by omega, if_pos (by omega), if_pos (by omega), if_pos (by omega), rd_ev hlt, wrap_pred (by omega), ih]
    rw [lastB_next hlt]
    by_cases h1 : l[n].f0 = 1
    · rw [if_pos h1]
      by_cases h2 : l[n].f1 = th
      · rw [if_pos h2, if_pos ⟨h1, h2⟩]
      · rw [if_neg h2, if_neg (fun h => h2 h.2)]
    · rw [if_neg h1, if_neg (fun h => h1 h.1)]

/-- No event of the m from j on ends a try of the thread. -/
def openU (l : List Ev) (th : Int) : Nat → Nat → Bool
  | 0, _ => true
  | m + 1, j => match l[j]? with
    | some e => if e.f1 = th ∧ (e.f0 = 5 ∨ e.f0 = 6) then false else openU l th m (j + 1)
    | none => true
theorem openU_next {l : List Ev} {th : Int} {m j : Nat} (h : j < l.length) : openU l th (m + 1) j = if l[j].f1 = th ∧ (l[j].f0 = 5 ∨ l[j].f0 = 6) then false else openU l th m (j + 1) := by
  show (match l[j]? with
    | some e => if e.f1 = th ∧ (e.f0 = 5 ∨ e.f0 = 6) then false else openU l th m (j + 1)
    | none => true) = _
  rw [List.getElem?_eq_getElem h]
theorem open_fuel (l : List Ev) (hl : l.length ≤ 1000000000) (b n : Nat) (hb : b < l.length) (hn : n ≤ l.length) : ∀ m j, j + m = n → ∀ k, m + 1 ≤ k → quarrelref17_open.l0 k l (b : Int) (n : Int) (j : Int) = some (openU l l[b].f1 m j)
  | 0, j, hj, k, hk => by
    obtain ⟨k, rfl⟩ : ∃ k', k = k' + 1 := ⟨k - 1, by omega⟩
    unfold quarrelref17_open.l0
    rw [if_neg (by omega)]
    rfl
  | m + 1, j, hj, k, hk => by
    obtain ⟨k, rfl⟩ : ∃ k', k = k' + 1 := ⟨k - 1, by omega⟩
    have ih := open_fuel l hl b n hb hn m (j + 1) (by omega) k (by omega)
    have hlt : j < l.length := by omega
    unfold quarrelref17_open.l0
    rw [if_pos (by omega), if_pos (by omega), if_pos (by omega), if_pos (by omega), if_pos (by omega), rd_ev hlt, rd_ev hb, wrap_succ (by omega) (by omega), show ((j : Int) + 1) = ((j + 1 : Nat) : Int) by omega, ih, openU_next hlt]
    by_cases h1 : l[j].f1 = l[b].f1
    · rw [if_pos h1]
      by_cases h2 : l[j].f0 = 5
      · rw [if_pos h2, if_pos ⟨h1, .inl h2⟩]
      · rw [if_neg h2]
        by_cases h3 : l[j].f0 = 6
        · rw [if_pos h3, if_pos ⟨h1, .inr h3⟩]
        · rw [if_neg h3, if_neg (fun h => h.2.elim h2 h3)]
    · rw [if_neg h1, if_neg (fun h => h1 h.1)]
end Go.Proofs.Ytjmnbbflahacoaa.Hist
/- hist, plain: the last begin, as the tries have it. No condition. -/
namespace Go.Proofs.Ytjmnbbflahacoaa.Hist
open Go.RowKit Go.Proofs.Ytjmnbbflahacoaa.Mem Go.Proofs.Ytjmnbbflahacoaa.PHistTells
set_option linter.unusedVariables false
set_option linter.unusedSimpArgs false

/-- Where a thread's last try began. -/
def lastPlace (ts : List Tr) (th : Int) : Int := match lastOf th ts with
  | some k => match ts[k]? with
    | some t => t.f4
    | none => -1
  | none => -1
theorem lastPlace_snoc (ts : List Tr) (t : Tr) (th : Int) : lastPlace (ts ++ [t]) th = if t.f0 = th then t.f4 else lastPlace ts th := by
  unfold lastPlace
  rw [lastOf_snoc]
  by_cases h : t.f0 = th
  · rw [if_pos (by simpa using h), if_pos h]
    simp
  · rw [if_neg (by simpa using h), if_neg h]
    cases hl : lastOf th ts with
    | none => rfl
    | some k =>
      have := lastOf_lt hl
      simp only [List.getElem?_append_left this]
theorem lastPlace_set {ts : List Tr} {k : Nat} {t t' : Tr} (ht : ts[k]? = some t) (h0 : t'.f0 = t.f0) (h4 : t'.f4 = t.f4) (th : Int) : lastPlace (ts.set k t') th = lastPlace ts th := by
  unfold lastPlace
  rw [lastOf_set th ts k t t' ht h0]
  cases hl : lastOf th ts with
  | none => rfl
  | some j =>
    simp only
    by_cases e : k = j
    · subst e
      rw [List.getElem?_set_self (List.getElem?_eq_some_iff.1 ht).1, ht]
      exact h4
    · rw [List.getElem?_set_ne e]
theorem step_lastB {l : List Ev} {n : Nat} {ts ts' : List Tr} {e : Ev} (h : ∀ th, lastB l th n = lastPlace ts th) (hn : n < l.length) (he : l[n]? = some e) (hs : stepM ts n e = some ts') (th : Int) : lastB l th (n + 1) = lastPlace ts' th := by
  have hen : l[n] = e := by rw [List.getElem?_eq_getElem hn] at he; injection he
  rw [lastB_next hn, hen]
  unfold stepM at hs
  split at hs
  · rename_i h1
    split at hs
    · cases hs
    · injection hs with hs
      subst hs
      rw [lastPlace_snoc]
      by_cases hth : e.f1 = th
      · rw [if_pos ⟨beq_iff_eq.1 h1, hth⟩, if_pos (show (newTr n e).f0 = th from hth)]; rfl
      · rw [if_neg (fun hh => hth hh.2), if_neg (show ¬ (newTr n e).f0 = th from hth)]; exact h th
  · rename_i h1
    have hne : ¬ (e.f0 = 1 ∧ e.f1 = th) := fun hh => h1 (beq_iff_eq.2 hh.1)
    rw [if_neg hne]
    split at hs
    · split at hs
      · cases hs
      · injection hs with hs
        subst hs
        exact h th
    split at hs
    · split at hs
      · rename_i t ht
        split at hs
        · rw [Option.map_eq_some_iff] at hs
          obtain ⟨t', ht1, ht2⟩ := hs
          subst ht2
          obtain ⟨k0, _, _, _, k4⟩ := turnTr_keeps ht1
          rw [lastPlace_set ht k0 k4]
          exact h th
        · cases hs
      · cases hs
    · cases hs
end Go.Proofs.Ytjmnbbflahacoaa.Hist
/- hist, plain: the number of a transaction's last attempt, as the tries have it. No condition. -/
namespace Go.Proofs.Ytjmnbbflahacoaa.Hist
open Go.RowKit Go.Proofs.Ytjmnbbflahacoaa.Mem Go.Proofs.Ytjmnbbflahacoaa.PHistTells Go.Proofs.YtjmnbbflahacoaaW.PrintWords
set_option linter.unusedVariables false
set_option linter.unusedSimpArgs false

/-- The attempt of a transaction's last EvBegin below n; 0: none. -/
def attB (l : List Ev) (th tx : Int) : Nat → Int
  | 0 => 0
  | n + 1 => match l[n]? with
    | some e => if e.f0 = 1 ∧ e.f1 = th ∧ e.f2 = tx then e.f3 else attB l th tx n
    | none => attB l th tx n
theorem attB_next {l : List Ev} {th tx : Int} {n : Nat} (h : n < l.length) : attB l th tx (n + 1) = if l[n].f0 = 1 ∧ l[n].f1 = th ∧ l[n].f2 = tx then l[n].f3 else attB l th tx n := by
  show (match l[n]? with
    | some e => if e.f0 = 1 ∧ e.f1 = th ∧ e.f2 = tx then e.f3 else attB l th tx n
    | none => attB l th tx n) = _
  rw [List.getElem?_eq_getElem h]
theorem step_attB {l : List Ev} {n : Nat} {ts ts' : List Tr} {e : Ev} (h : ∀ th tx, attB l th tx n = (countOf th tx ts : Int)) (hn : n < l.length) (he : l[n]? = some e) (hs : stepM ts n e = some ts') (th tx : Int) : attB l th tx (n + 1) = (countOf th tx ts' : Int) := by
  have hen : l[n] = e := by rw [List.getElem?_eq_getElem hn] at he; injection he
  rw [attB_next hn, hen]
  unfold stepM at hs
  split at hs
  · rename_i h1
    split at hs
    · cases hs
    · rename_i hc
      injection hs with hs
      subst hs
      have hat : e.f3 = (countOf e.f1 e.f2 ts : Int) + 1 := by
        simp only [Bool.or_eq_true, Bool.not_eq_true', not_or, Bool.not_eq_true, Bool.not_eq_false] at hc
        simpa using hc.2
      rw [countOf_snoc]
      by_cases hk : e.f1 = th ∧ e.f2 = tx
      · obtain ⟨rfl, rfl⟩ := hk
        rw [if_pos ⟨beq_iff_eq.1 h1, rfl, rfl⟩, hat, if_pos (by simp [newTr])]
        omega
      · rw [if_neg (fun hh => hk hh.2), if_neg (by simpa [newTr] using hk), h th tx]
        omega
  · rename_i h1
    have hne : ¬ (e.f0 = 1 ∧ e.f1 = th ∧ e.f2 = tx) := fun hh => h1 (beq_iff_eq.2 hh.1)
    rw [if_neg hne]
    split at hs
    · split at hs
      · cases hs
      · injection hs with hs
        subst hs
        exact h th tx
    split at hs
    · split at hs
      · rename_i t ht
        split at hs
        · rw [Option.map_eq_some_iff] at hs
          obtain ⟨t', ht1, ht2⟩ := hs
          subst ht2
          obtain ⟨k0, k1, _⟩ := turnTr_keeps ht1
          rw [countOf_set th tx ts _ t t' ht k0 k1]
          exact h th tx
        · cases hs
      · cases hs
    · cases hs
end Go.Proofs.Ytjmnbbflahacoaa.Hist
/- hist, plain: the document's Right is the program's. No condition. -/
namespace Go.Proofs.Ytjmnbbflahacoaa.Hist
open Go.RowKit Go.Proofs.Ytjmnbbflahacoaa.Mem Go.Proofs.Ytjmnbbflahacoaa.PHistTells Go.Proofs.YtjmnbbflahacoaaW.PrintWords
set_option linter.unusedVariables false
set_option linter.unusedSimpArgs false

theorem att_fuel (l : List Ev) (hl : l.length ≤ 1000000000) (n : Nat) (hn : n ≤ l.length) (is : Bool) (a0 th tx at' a4 a5 a6 : Int) : ∀ m j, j + m = n → ∀ k, quarrelref17_Right.l1 (m + 1 + k) l (n : Int) is (attB l th tx j) (j : Int) a0 th tx at' a4 a5 a6 =
    (if is = true then some false else if at' = wrap64 (attB l th tx n + 1) then quarrelref17_Right.l0 k l (wrap64 ((n : Int) + 1)) else some false)
  | 0, j, hj, k => by
    obtain rfl : j = n := by omega
    rw [show 0 + 1 + k = k + 1 by omega]
    unfold quarrelref17_Right.l1
    rw [if_neg (by omega)]
  | m + 1, j, hj, k => by
    have ih := att_fuel l hl n hn is a0 th tx at' a4 a5 a6 m (j + 1) (by omega) k
    have hlt : j < l.length := by omega
    rw [attB_next hlt] at ih
    rw [show m + 1 + 1 + k = (m + 1 + k) + 1 by omega]
    unfold quarrelref17_Right.l1
    rw [if_pos (by omega), if_pos (by omega), if_pos (by omega), rd_ev hlt, wrap_succ (by omega) (by omega), show ((j : Int) + 1) = ((j + 1 : Nat) : Int) by omega]
    by_cases h1 : l[j].f0 = 1
    · rw [if_pos h1]
      by_cases h2 : l[j].f1 = th
      · rw [if_pos h2]
        by_cases h3 : l[j].f2 = tx
        · rw [if_pos h3]
          rw [if_pos ⟨h1, h2, h3⟩] at ih
          exact ih
        · rw [if_neg h3]
          rw [if_neg (fun h => h3 h.2.2)] at ih
          exact ih
      · rw [if_neg h2]
        rw [if_neg (fun h => h2 h.2.1)] at ih
        exact ih
    · rw [if_neg h1]
      rw [if_neg (fun h => h1 h.1)] at ih
      exact ih

theorem openU_iff {l : List Ev} {th : Int} : ∀ (m j : Nat), j + m ≤ l.length → (openU l th m j = true ↔ ∀ (i : Nat) (e : Ev), j ≤ i → i < j + m → l[i]? = some e → ¬ endsOf th e)
  | 0, j, _ => by
    constructor
    · intro _ i e h1 h2
      omega
    · intro _
      rfl
  | m + 1, j, hj => by
    have hlt : j < l.length := by omega
    have ih := openU_iff (l := l) (th := th) m (j + 1) (by omega)
    rw [openU_next hlt]
    by_cases h : l[j].f1 = th ∧ (l[j].f0 = 5 ∨ l[j].f0 = 6)
    · rw [if_pos h]
      constructor
      · intro hh; cases hh
      · intro hh
        exact absurd h (hh j _ (Nat.le_refl _) (by omega) (List.getElem?_eq_getElem hlt))
    · rw [if_neg h, ih]
      constructor
      · intro hh i e h1 h2 h3
        by_cases hi : i = j
        · subst hi
          rw [List.getElem?_eq_getElem hlt] at h3
          injection h3 with h3
          subst h3
          exact h
        · exact hh i e (by omega) (by omega) h3
      · exact fun hh i e h1 h2 h3 => hh i e (by omega) (by omega) h3

/-- All that ties a right trace's first n events to the tries. -/
structure Tied (l : List Ev) (n : Nat) (ts : List Tr) : Prop where
  tr : Traced l n ts
  lb : ∀ th, lastB l th n = lastPlace ts th
  att : ∀ th tx, attB l th tx n = (countOf th tx ts : Int)
  len : ts.length ≤ n
theorem Tied.start (l : List Ev) : Tied l 0 [] :=
  ⟨⟨rfl, fun t h => by simp at h, fun k t h => by simp at h, fun k t h => by simp at h⟩, fun _ => rfl, fun _ _ => rfl, Nat.le_refl _⟩
theorem step_len {ts ts' : List Tr} {i : Int} {e : Ev} (h : stepM ts i e = some ts') : ts'.length ≤ ts.length + 1 := by
  unfold stepM at h
  split at h
  · split at h
    · cases h
    · injection h with h; subst h; simp
  split at h
  · split at h
    · cases h
    · injection h with h; subst h; omega
  split at h
  · split at h
    · split at h
      · rw [Option.map_eq_some_iff] at h
        obtain ⟨t', _, h⟩ := h
        subst h; simp
      · cases h
    · cases h
  · cases h
theorem Tied.step {l : List Ev} {n : Nat} {ts ts' : List Tr} {e : Ev} (h : Tied l n ts) (hn : n < l.length) (he : l[n]? = some e) (hs : stepM ts n e = some ts') : Tied l (n + 1) ts' :=
  ⟨h.tr.step he hs, step_lastB h.lb hn he hs, step_attB h.att hn he hs, by have := step_len hs; have := h.len; omega⟩

/-- The document's 'open', at a thread's last begin. -/
theorem open_tied {l : List Ev} (hl : l.length ≤ 1000000000) {n : Nat} {ts : List Tr} (h : Tied l n ts) (hn : n ≤ l.length) (th : Int) (k : Nat) (hk : l.length + 1 ≤ k) :
    quarrelref17_open.f k l (lastPlace ts th) (n : Int) = some (isOpen ts th) := by
  unfold quarrelref17_open.f
  cases hlo : lastOf th ts with
  | none =>
    have h1 : lastPlace ts th = -1 := by unfold lastPlace; rw [hlo]
    have h2 : isOpen ts th = false := by unfold isOpen; rw [hlo]
    rw [h1, h2, if_pos (by omega)]
  | some q =>
    have hq := lastOf_lt hlo
    have ht : ts[q]? = some ts[q] := List.getElem?_eq_getElem hq
    have hth := lastOf_thread hlo ht
    obtain ⟨b, e, x1, x2, x3, x4, x5, _⟩ := h.tr.ev _ (List.getElem_mem hq)
    have hbl : b < l.length := by omega
    have h1 : lastPlace ts th = (b : Int) := by unfold lastPlace; rw [hlo]; simp only [ht]; exact x1
    have hbe : l[b] = e := by rw [List.getElem?_eq_getElem hbl] at x3; injection x3
    rw [h1, if_neg (by omega), wrap_succ (by omega) (by omega), show ((b : Int) + 1) = ((b + 1 : Nat) : Int) by omega, open_fuel l hl b n hbl hn (n - (b + 1)) (b + 1) (by omega) k (by omega)]
    congr 1
    have hsh := h.tr.shut q _ ht (by rw [hth]; exact hlo)
    have hth2 : l[b].f1 = th := by rw [hbe, ← x5]; exact hth
    have hop : isOpen ts th = true ↔ ts[q].f5 < 0 := by
      unfold isOpen
      rw [hlo]
      simp only [ht, decide_eq_true_eq]
    rw [Bool.eq_iff_iff, hop, hsh, openU_iff _ _ (by omega), hth2, hth]
    constructor
    · intro hh j e' h2 h3 h4
      exact hh j e' (by omega) (by omega) h4
    · intro hh j e' h2 h3 h4
      exact hh j e' (by omega) (by omega) h4
end Go.Proofs.Ytjmnbbflahacoaa.Hist
/- hist, plain: the document's Right is the program's: all of it. No condition. -/
namespace Go.Proofs.Ytjmnbbflahacoaa.Hist
open Go.RowKit Go.Proofs.Ytjmnbbflahacoaa.Mem Go.Proofs.Ytjmnbbflahacoaa.PHistTells Go.Proofs.YtjmnbbflahacoaaW.PrintWords
set_option linter.unusedVariables false
set_option linter.unusedSimpArgs false

theorem turnTr_none {t : Tr} {i : Int} {e : Ev} (h : ¬ (2 ≤ e.f0 ∧ e.f0 ≤ 6)) : turnTr t i e = none := by
  unfold turnTr
  rw [if_neg (by simp; omega), if_neg (by simp; omega), if_neg (by simp; omega), if_neg (by simp; omega)]
theorem turnTr_some {t : Tr} {i : Int} {e : Ev} (h : 2 ≤ e.f0 ∧ e.f0 ≤ 6) : (turnTr t i e).isSome = true := by
  unfold turnTr
  split
  · rfl
  split
  · rfl
  split
  · rfl
  split
  · rfl
  · rename_i h1 h2 h3 h4
    simp at h1 h2 h3 h4
    omega

theorem tied_place {l : List Ev} {n : Nat} {ts : List Tr} (h : Tied l n ts) (hn : n ≤ l.length) {th : Int} {q : Nat} (hlo : lastOf th ts = some q) :
    ∃ (b : Nat) (t : Tr) (hb : b < l.length), lastPlace ts th = (b : Int) ∧ ts[q]? = some t ∧ t.f0 = th ∧ l[b].f1 = t.f0 ∧ l[b].f2 = t.f1 ∧ l[b].f3 = t.f2 := by
  have hq := lastOf_lt hlo
  have ht : ts[q]? = some ts[q] := List.getElem?_eq_getElem hq
  have hth := lastOf_thread hlo ht
  obtain ⟨b, e, x1, x2, x3, x4, x5, x6, x7, x8⟩ := h.tr.ev _ (List.getElem_mem hq)
  have hbl : b < l.length := by omega
  have hbe : l[b] = e := by rw [List.getElem?_eq_getElem hbl] at x3; injection x3
  refine ⟨b, ts[q], hbl, ?_, ht, hth, ?_, ?_, ?_⟩
  · unfold lastPlace; rw [hlo]; simp only [ht]; exact x1
  · rw [hbe]; exact x5.symm
  · rw [hbe]; exact x6.symm
  · rw [hbe]; exact x7.symm

theorem right_fuel (l : List Ev) (hl : l.length ≤ 1000000000) : ∀ (m n : Nat) (ts : List Tr), n + m = l.length → Tied l n ts → ∀ k, (l.length + 3) * (m + 1) ≤ k →
    quarrelref17_Right.l0 k l (n : Int) = some (readFrom ts n (l.drop n)).isSome
  | 0, n, ts, hn, hT, k, hk => by
    obtain ⟨k, rfl⟩ : ∃ k', k = k' + 1 := ⟨k - 1, by omega⟩
    unfold quarrelref17_Right.l0
    rw [if_neg (by omega), List.drop_eq_nil_of_le (by omega)]
    rfl
  | m + 1, n, ts, hn, hT, k, hk => by
    rw [show (l.length + 3) * (m + 1 + 1) = (l.length + 3) * (m + 1) + (l.length + 3) from Nat.mul_succ _ _] at hk
    obtain ⟨q, hq⟩ : ∃ q, (l.length + 3) * (m + 1) = q := ⟨_, rfl⟩
    obtain ⟨k, rfl⟩ : ∃ k', k = k' + 1 := ⟨k - 1, by omega⟩
    have hlt : n < l.length := by omega
    have ih := fun ts' hT' k hk => right_fuel l hl m (n + 1) ts' (by omega) hT' k hk
    rw [hq] at hk ih
    obtain ⟨e, he⟩ : ∃ e, l[n] = e := ⟨_, rfl⟩
    have he? : l[n]? = some e := by rw [List.getElem?_eq_getElem hlt, he]
    have hlast : quarrelref17_last.f k l (n : Int) e.f1 = some (lastPlace ts e.f1) := by
      unfold quarrelref17_last.f
      rw [wrap_pred (by omega), last_fuel l e.f1 hl n (by omega) k (by omega), hT.lb]
    have hopen := open_tied hl hT (by omega) e.f1 k (by omega)
    have hnx : wrap64 ((n : Int) + 1) = ((n + 1 : Nat) : Int) := by rw [wrap_succ (by omega) (by omega)]; omega
    unfold quarrelref17_Right.l0
    rw [if_pos (by omega), if_pos (by omega), rd_ev hlt, he, hlast]
    simp only [Option.bind_some]
    rw [hopen]
    simp only [Option.bind_some]
    rw [List.drop_eq_getElem_cons hlt, he]
    show _ = some (((stepM ts n e).bind fun ts' => readFrom ts' (n + 1) (l.drop (n + 1))).isSome)
    have hbr : ∀ (c : Bool) (k' : Nat), (stepM ts n e).isSome = c → q ≤ k' → (if c = true then quarrelref17_Right.l0 k' l ((n + 1 : Nat) : Int) else some false) = some (((stepM ts n e).bind fun ts' => readFrom ts' (n + 1) (l.drop (n + 1))).isSome) := by
      intro c k' hc hk'
      cases hs : stepM ts n e with
      | none =>
        rw [hs] at hc
        subst hc
        rfl
      | some ts' =>
        rw [hs] at hc
        subst hc
        exact ih ts' (hT.step hlt he? hs) k' hk'
    by_cases h1 : e.f0 = 1
    · rw [if_pos h1]
      obtain ⟨k', rfl⟩ : ∃ k', k = n + 1 + k' := ⟨k - (n + 1), by omega⟩
      have hat := att_fuel l hl n (by omega) (isOpen ts e.f1) e.f0 e.f1 e.f2 e.f3 e.f4 e.f5 e.f6 n 0 (by omega) k'
      have hcl : countOf e.f1 e.f2 ts ≤ ts.length := List.countP_le_length
      have hlen := hT.len
      rw [show attB l e.f1 e.f2 0 = 0 from rfl, show ((0 : Nat) : Int) = 0 from rfl, hT.att, wrap_succ (by omega) (by omega), hnx] at hat
      rw [hat]
      rw [← hbr (!(isOpen ts e.f1) && (e.f3 == (countOf e.f1 e.f2 ts : Int) + 1)) k' (by
        unfold stepM
        rw [if_pos (by rw [h1]; rfl)]
        cases isOpen ts e.f1 <;> cases (e.f3 == (countOf e.f1 e.f2 ts : Int) + 1) <;> rfl) (by omega)]
      cases isOpen ts e.f1
      · by_cases h3 : e.f3 = (countOf e.f1 e.f2 ts : Int) + 1
        · rw [if_neg (by decide), if_pos h3, if_pos (by simp [h3])]
        · rw [if_neg (by decide), if_neg h3, if_neg (by simp [h3])]
      · rfl
    rw [if_neg h1]
    by_cases h7 : e.f0 = 7
    · rw [if_pos h7, hnx]
      rw [← hbr (!(isOpen ts e.f1)) k (by
        unfold stepM
        rw [if_neg (by rw [h7]; decide), if_pos (by rw [h7]; rfl)]
        cases isOpen ts e.f1 <;> rfl) (by omega)]
      cases isOpen ts e.f1 <;> rfl
    rw [if_neg h7]
    have hstep : stepM ts n e = match lastOf e.f1 ts with
      | some k => match ts[k]? with
        | some t => if decide (t.f5 < 0) && t.f1 == e.f2 && t.f2 == e.f3 then (turnTr t n e).map (ts.set k) else none
        | none => none
      | none => none := by
      unfold stepM
      rw [if_neg (by simpa using h1), if_neg (by simpa using h7)]
      rfl
    have hno : ∀ k, quarrelref17_Right.j2 (k + 1) l (n : Int) (lastPlace ts e.f1) (isOpen ts e.f1) false e.f0 e.f1 e.f2 e.f3 e.f4 e.f5 e.f6 = some false := fun k => rfl
    obtain ⟨k, rfl⟩ : ∃ k', k = k' + 1 := ⟨k - 1, by omega⟩
    by_cases h26 : 2 ≤ e.f0 ∧ e.f0 ≤ 6
    · rw [if_pos h26.1, show decide (e.f0 ≤ 6) = true from decide_eq_true h26.2]
      unfold quarrelref17_Right.j2
      rw [if_pos rfl]
      cases hlo : lastOf e.f1 ts with
      | none =>
        have h2 : isOpen ts e.f1 = false := by unfold isOpen; rw [hlo]
        rw [h2, if_neg (by decide), ← hbr false k (by rw [hstep, hlo]; rfl) (by omega)]
        rfl
      | some x =>
        obtain ⟨b, t, hb, hpl, ht, hth, y1, y2, y3⟩ := tied_place hT (by omega) hlo
        have hop : isOpen ts e.f1 = decide (t.f5 < 0) := by unfold isOpen; rw [hlo]; simp only [ht]
        rw [hop, hpl]
        rw [← hbr (decide (t.f5 < 0) && t.f1 == e.f2 && t.f2 == e.f3) k (by
          rw [hstep, hlo]
          simp only [ht]
          split
          · rename_i hc
            rw [hc, Option.isSome_map]
            exact turnTr_some h26
          · rename_i hc
            simp only [Bool.not_eq_true] at hc
            rw [hc]; rfl) (by omega)]
        cases hd : decide (t.f5 < 0)
        · rfl
        · rw [if_pos rfl, if_pos (by omega), if_pos (by omega), rd_ev hb, hnx]
          have hown : quarrelref17_own.f l[b].f0 l[b].f1 l[b].f2 l[b].f3 l[b].f4 l[b].f5 l[b].f6 e.f0 e.f1 e.f2 e.f3 e.f4 e.f5 e.f6 = some (t.f1 == e.f2 && t.f2 == e.f3) := by
            unfold quarrelref17_own.f
            rw [y1, y2, y3, if_pos hth]
            by_cases z : t.f1 = e.f2
            · rw [if_pos z, beq_iff_eq.2 z]; rfl
            · rw [if_neg z, beq_eq_false_iff_ne.2 z]; rfl
          rw [hown]
          simp only [Option.bind_some, Bool.true_and]
    · have hz : stepM ts n e = none := by
        rw [hstep]
        cases hlo : lastOf e.f1 ts with
        | none => rfl
        | some x =>
          simp only
          cases ht : ts[x]? with
          | none => rfl
          | some t =>
            simp only
            rw [turnTr_none h26]
            split <;> rfl
      rw [hz]
      split
      · rename_i h2
        rw [show decide (e.f0 ≤ 6) = false from decide_eq_false (fun h => h26 ⟨h2, h⟩)]
        exact hno k
      · exact hno k

theorem ref_right (l : List Ev) (hl : l.length ≤ 1000000000) : ∃ k, quarrelref17_Right.f k l = some (rightM l) :=
  ⟨(l.length + 3) * (l.length + 1), right_fuel l hl l.length 0 [] (by omega) (Tied.start l) _ (Nat.le_refl _)⟩
end Go.Proofs.Ytjmnbbflahacoaa.Hist
