/- hist, plain: a right trace's tries and its events: begins, ends, who is open. No condition. -/
import Derived.Test.YtjmnbbflahacoaaPlaceX
import Derived.Test.YtjmnbbflahacoaaHistY
import Derived.Test.YtjmnbbflahacoaaPHistTellsx1
import Derived.Test.YtjmnbbflahacoaaHistZ
import Derived.BigRegion
import Derived.Deep.DeepCutAuto
import Derived.Deep.RegionWith
namespace Go.Proofs.Ytjmnbbflahacoaa.Hist
open Go.RowKit Go.Proofs.Ytjmnbbflahacoaa.Mem Go.Proofs.Ytjmnbbflahacoaa.PHistTells
set_option linter.unusedVariables false
set_option linter.unusedSimpArgs false

/-- An event that ends a try of the thread th. -/
def endsOf (th : Int) (e : Ev) : Prop := e.f1 = th ∧ (e.f0 = 5 ∨ e.f0 = 6)
/-- Is an EvBegin at the place? -/
def beginAt (l : List Ev) (j : Nat) : Bool := match l[j]? with
  | some e => e.f0 == 1
  | none => false
theorem beginAt_of {l : List Ev} {n : Nat} {e : Ev} (h : l[n]? = some e) : beginAt l n = (e.f0 == 1) := by unfold beginAt; rw [h]
/-- The tries of a trace's first n events, held against the events. -/
structure Traced (l : List Ev) (n : Nat) (ts : List Tr) : Prop where
  begins : ts.map (·.f4) = ((List.range n).filter (beginAt l)).map (fun j : Nat => (j : Int))
  ev : ∀ t ∈ ts, ∃ b : Nat, ∃ e, t.f4 = (b : Int) ∧ b < n ∧ l[b]? = some e ∧ e.f0 = 1 ∧ t.f0 = e.f1 ∧ t.f1 = e.f2 ∧ t.f2 = e.f3 ∧ t.f3 = e.f5
  last : ∀ (k : Nat) (t : Tr), ts[k]? = some t → t.f5 < 0 → lastOf t.f0 ts = some k
  shut : ∀ (k : Nat) (t : Tr), ts[k]? = some t → lastOf t.f0 ts = some k → (t.f5 < 0 ↔ ∀ (j : Nat) (e : Ev), t.f4 < j → j < n → l[j]? = some e → ¬ endsOf t.f0 e)

theorem range_filter_next (n : Nat) (p : Nat → Bool) : (List.range (n + 1)).filter p = (List.range n).filter p ++ (if p n then [n] else []) := by
  rw [List.range_succ, List.filter_append]
  cases h : p n <;> simp [h]

theorem isOpen_at {ts : List Tr} {th : Int} {k : Nat} {t : Tr} (hl : lastOf th ts = some k) (ht : ts[k]? = some t) (ho : t.f5 < 0) : isOpen ts th = true := by
  unfold isOpen
  rw [hl]
  simp [ht, ho]
theorem lastOf_thread {th : Int} {ts : List Tr} {k : Nat} {t : Tr} (hl : lastOf th ts = some k) (ht : ts[k]? = some t) : t.f0 = th := by
  have := (lastIx_spec th _ k hl).1
  rw [List.getElem?_map, ht] at this
  simpa using this

theorem Traced.stay {l : List Ev} {n : Nat} {ts : List Tr} {e : Ev} (h : Traced l n ts) (he : l[n]? = some e) (h1 : e.f0 ≠ 1) (h5 : e.f0 ≠ 5) (h6 : e.f0 ≠ 6) : Traced l (n + 1) ts := by
  refine ⟨?_, fun t ht => ?_, h.last, fun k t hk hl => ?_⟩
  · rw [range_filter_next, beginAt_of he, h.begins]
    simp [h1]
  · obtain ⟨b, e', x1, x2, x3⟩ := h.ev t ht
    exact ⟨b, e', x1, by omega, x3⟩
  · rw [h.shut k t hk hl]
    constructor
    · intro hh j e' hj hjn hje
      by_cases hn : j = n
      · subst hn
        rw [he] at hje
        injection hje with hje
        subst hje
        rintro ⟨_, h | h⟩
        · exact h5 h
        · exact h6 h
      · exact hh j e' hj (by omega) hje
    · exact fun hh j e' hj hjn hje => hh j e' hj (by omega) hje

theorem Traced.step {l : List Ev} {n : Nat} {ts ts' : List Tr} {e : Ev} (h : Traced l n ts) (he : l[n]? = some e) (hs : stepM ts n e = some ts') : Traced l (n + 1) ts' := by
  unfold stepM at hs
  split at hs
  · rename_i h1
    have h1' := beq_iff_eq.1 h1
    split at hs
    · cases hs
    · rename_i hc
      injection hs with hs
      subst hs
      have hno : isOpen ts e.f1 = false := by
        cases hh : isOpen ts e.f1 with
        | false => rfl
        | true => exact absurd (by rw [hh]; rfl) hc
      refine ⟨?_, fun t ht => ?_, fun k t hk ho => ?_, fun k t hk hl => ?_⟩
      · rw [range_filter_next, beginAt_of he, List.map_append, h.begins, h1, if_pos rfl, List.map_append]; rfl
      · rw [List.mem_append, List.mem_singleton] at ht
        rcases ht with ht | rfl
        · obtain ⟨b, e', x1, x2, x3⟩ := h.ev t ht
          exact ⟨b, e', x1, by omega, x3⟩
        · exact ⟨n, e, rfl, by omega, he, h1', rfl, rfl, rfl, rfl⟩
      · rw [lastOf_snoc]
        rcases Nat.lt_or_ge k ts.length with hlt | hge
        · rw [List.getElem?_append_left hlt] at hk
          have hl := h.last k t hk ho
          by_cases hth : (newTr n e).f0 = t.f0
          · have : isOpen ts e.f1 = true := isOpen_at (by rw [show e.f1 = t.f0 from hth]; exact hl) hk ho
            rw [hno] at this; cases this
          · rw [if_neg (by simpa using hth)]; exact hl
        · rw [List.getElem?_append_right hge] at hk
          have hk0 : k - ts.length = 0 := by
            have := (List.getElem?_eq_some_iff.1 hk).1
            simp at this
            omega
          rw [hk0] at hk
          simp only [List.getElem?_cons_zero, Option.some.injEq] at hk
          subst hk
          rw [if_pos (by simp), show k = ts.length by omega]
      · rw [lastOf_snoc] at hl
        rcases Nat.lt_or_ge k ts.length with hlt | hge
        · rw [List.getElem?_append_left hlt] at hk
          have hth : ¬ (newTr n e).f0 = t.f0 := by
            intro hth
            rw [if_pos (by simpa using hth)] at hl
            injection hl with hl
            omega
          rw [if_neg (by simpa using hth)] at hl
          rw [h.shut k t hk hl]
          constructor
          · intro hh j e' hj hjn hje
            by_cases hn : j = n
            · subst hn
              rw [he] at hje
              injection hje with hje
              subst hje
              exact fun hq => hth hq.1
            · exact hh j e' hj (by omega) hje
          · exact fun hh j e' hj hjn hje => hh j e' hj (by omega) hje
        · rw [List.getElem?_append_right hge] at hk
          have hk0 : k - ts.length = 0 := by
            have := (List.getElem?_eq_some_iff.1 hk).1
            simp at this
            omega
          rw [hk0] at hk
          simp only [List.getElem?_cons_zero, Option.some.injEq] at hk
          subst hk
          constructor
          · intro _ j e' hj hjn _
            have : (n : Int) < (j : Int) := hj
            omega
          · intro _
            show (-1 : Int) < 0
            omega
  split at hs
  · rename_i h1 h7
    have h7' := beq_iff_eq.1 h7
    split at hs
    · cases hs
    · injection hs with hs
      subst hs
      exact h.stay he (by rw [h7']; decide) (by rw [h7']; decide) (by rw [h7']; decide)
  split at hs
  · rename_i h1 h7 _ k hk
    have h1' : e.f0 ≠ 1 := fun hh => h1 (beq_iff_eq.2 hh)
    split at hs
    · rename_i t ht
      split at hs
      · rename_i hc
        rw [Option.map_eq_some_iff] at hs
        obtain ⟨t', ht1, ht2⟩ := hs
        subst ht2
        simp only [Bool.and_eq_true, decide_eq_true_eq, beq_iff_eq] at hc
        obtain ⟨⟨ho, _⟩, _⟩ := hc
        have hth := lastOf_thread hk ht
        obtain ⟨k0, k1, k2, k3, k4⟩ := turnTr_keeps ht1
        have hlt : k < ts.length := (List.getElem?_eq_some_iff.1 ht).1
        have hlo : ∀ th, lastOf th (ts.set k t') = lastOf th ts := fun th => lastOf_set th ts k t t' ht k0
        refine ⟨?_, fun u hu => ?_, fun j u hj hu => ?_, fun j u hj hl => ?_⟩
        · rw [range_filter_next, beginAt_of he, map_set_same (fun t : Tr => t.f4) ts k t t' ht k4, h.begins]
          simp [h1']
        · rcases List.mem_or_eq_of_mem_set hu with hu | rfl
          · obtain ⟨b, e', x1, x2, x3⟩ := h.ev u hu
            exact ⟨b, e', x1, by omega, x3⟩
          · obtain ⟨b, e', x1, x2, x3, x4, x5, x6, x7, x8⟩ := h.ev t (List.mem_of_getElem? ht)
            exact ⟨b, e', k4.trans x1, by omega, x3, x4, k0.trans x5, k1.trans x6, k2.trans x7, k3.trans x8⟩
        · rw [hlo]
          by_cases hjk : j = k
          · subst hjk
            rw [List.getElem?_set_self hlt] at hj
            injection hj with hj
            subst hj
            rw [k0, hth]; exact hk
          · rw [List.getElem?_set_ne (Ne.symm hjk)] at hj
            exact h.last j u hj hu
        · rw [hlo] at hl
          by_cases hjk : j = k
          · subst hjk
            rw [List.getElem?_set_self hlt] at hj
            injection hj with hj
            subst hj
            have hold := (h.shut j t ht (by rw [hth]; exact hk)).1 ho
            have hb : t.f4 < n := by
              obtain ⟨b, _, x1, x2, _⟩ := h.ev t (List.mem_of_getElem? ht)
              omega
            rw [k0, k4]
            by_cases hend : e.f0 = 5 ∨ e.f0 = 6
            · have h5n : t'.f5 = n := by
                unfold turnTr at ht1
                rw [if_neg (by rcases hend with hh | hh <;> rw [hh] <;> decide), if_neg (by rcases hend with hh | hh <;> rw [hh] <;> decide)] at ht1
                rcases hend with hh | hh
                · rw [if_pos (by rw [hh]; rfl)] at ht1
                  injection ht1 with ht1; subst ht1; rfl
                · rw [if_neg (by rw [hh]; decide), if_pos (by rw [hh]; rfl)] at ht1
                  injection ht1 with ht1; subst ht1; rfl
              constructor
              · intro hh; omega
              · intro hh
                exact absurd ⟨hth.symm, hend⟩ (hh n e hb (by omega) he)
            · have h5s : t'.f5 = t.f5 := by
                unfold turnTr at ht1
                split at ht1
                · injection ht1 with ht1; subst ht1; rfl
                split at ht1
                · injection ht1 with ht1; subst ht1; rfl
                split at ht1
                · rename_i hh; exact absurd (.inl (beq_iff_eq.1 hh)) hend
                split at ht1
                · rename_i hh; exact absurd (.inr (beq_iff_eq.1 hh)) hend
                · cases ht1
              rw [h5s]
              refine ⟨fun _ i' e' hi hin hie => ?_, fun _ => ho⟩
              by_cases hn : i' = n
              · subst hn
                rw [he] at hie
                injection hie with hie
                subst hie
                exact fun hq => hend hq.2
              · exact hold i' e' hi (by omega) hie
          · rw [List.getElem?_set_ne (Ne.symm hjk)] at hj
            have hne : u.f0 ≠ e.f1 := by
              intro hh
              rw [hh, hk] at hl
              injection hl with hl
              exact hjk hl.symm
            rw [h.shut j u hj hl]
            constructor
            · intro hh i' e' hi hin hie
              by_cases hn : i' = n
              · subst hn
                rw [he] at hie
                injection hie with hie
                subst hie
                exact fun hq => hne hq.1.symm
              · exact hh i' e' hi (by omega) hie
            · exact fun hh i' e' hi hin hie => hh i' e' hi (by omega) hie
      · cases hs
    · cases hs
  · cases hs
end Go.Proofs.Ytjmnbbflahacoaa.Hist
/- hist, plain: the document's 'last' and 'open', of a right trace's tries. No condition. -/
namespace Go.Proofs.Ytjmnbbflahacoaa.Hist
open Go.RowKit Go.Proofs.Ytjmnbbflahacoaa.Mem Go.Proofs.Ytjmnbbflahacoaa.PHistTells Go.Proofs.YtjmnbbflahacoaaW.PrintWords
set_option linter.unusedVariables false
set_option linter.unusedSimpArgs false

theorem rd_ev {l : List Ev} {j : Nat} (h : j < l.length) : rd_T31 l (j : Int) = l[j] := by unfold rd_T31; simp [List.getD, h]
theorem wrap_pred {n : Nat} (h : n ≤ 1000000000) : wrap64 ((n : Int) - 1) = (n : Int) - 1 := IntWalk.wrap64_in _ (by omega)
theorem wrap_succ {n : Int} (h0 : -1 ≤ n) (h : n ≤ 1000000000) : wrap64 (n + 1) = n + 1 := IntWalk.wrap64_in _ (by omega)

/-- The place of a thread's last EvBegin, of the first n events; below 0: none. -/
def lastB (l : List Ev) (th : Int) : Nat → Int
  | 0 => -1
  | n + 1 => match l[n]? with
    | some e => if e.f0 = 1 ∧ e.f1 = th then (n : Int) else lastB l th n
    | none => lastB l th n

theorem lastB_next {l : List Ev} {th : Int} {n : Nat} (h : n < l.length) : lastB l th (n + 1) = if l[n].f0 = 1 ∧ l[n].f1 = th then (n : Int) else lastB l th n := by
  show (match l[n]? with
    | some e => if e.f0 = 1 ∧ e.f1 = th then (n : Int) else lastB l th n
    | none => lastB l th n) = _
  rw [List.getElem?_eq_getElem h]
theorem last_fuel (l : List Ev) (th : Int) (hl : l.length ≤ 1000000000) : ∀ n, n ≤ l.length → ∀ k, n + 1 ≤ k → quarrelref17_last.l0 k l th ((n : Int) - 1) = some (lastB l th n)
  | 0, _, k, hk => by
    obtain ⟨k, rfl⟩ : ∃ k', k = k' + 1 := ⟨k - 1, by omega⟩
    unfold quarrelref17_last.l0
    rw [if_neg (by simp)]
    rfl
  | n + 1, hn, k, hk => by
    obtain ⟨k, rfl⟩ : ∃ k', k = k' + 1 := ⟨k - 1, by omega⟩
    have ih := last_fuel l th hl n (by omega) k (by omega)
    have hlt : n < l.length := by omega
    unfold quarrelref17_last.l0
    rw [show ((n + 1 : Nat) : Int) - 1 = (n : Int) by omega, if_pos (by omega), if_pos (by omega), if_pos (by omega), rd_ev hlt, wrap_pred (by omega), ih]
    rw [lastB_next hlt]
    by_cases h1 : l[n].f0 = 1
    · rw [if_pos h1]
      by_cases h2 : l[n].f1 = th
      · rw [if_pos h2, if_pos ⟨h1, h2⟩]
      · rw [if_neg h2, if_neg (fun h => h2 h.2)]
    · rw [if_neg h1, if_neg (fun h => h1 h.1)]

/-- No event of the m from j on ends a try of the thread. -/
def openU (l : List Ev) (th : Int) : Nat → Nat → Bool
  | 0, _ => true
  | m + 1, j => match l[j]? with
    | some e => if e.f1 = th ∧ (e.f0 = 5 ∨ e.f0 = 6) then false else openU l th m (j + 1)
    | none => true
theorem openU_next {l : List Ev} {th : Int} {m j : Nat} (h : j < l.length) : openU l th (m + 1) j = if l[j].f1 = th ∧ (l[j].f0 = 5 ∨ l[j].f0 = 6) then false else openU l th m (j + 1) := by
  show (match l[j]? with
    | some e => if e.f1 = th ∧ (e.f0 = 5 ∨ e.f0 = 6) then false else openU l th m (j + 1)
    | none => true) = _
  rw [List.getElem?_eq_getElem h]
theorem open_fuel (l : List Ev) (hl : l.length ≤ 1000000000) (b n : Nat) (hb : b < l.length) (hn : n ≤ l.length) : ∀ m j, j + m = n → ∀ k, m + 1 ≤ k → quarrelref17_open.l0 k l (b : Int) (n : Int) (j : Int) = some (openU l l[b].f1 m j)
  | 0, j, hj, k, hk => by
    obtain ⟨k, rfl⟩ : ∃ k', k = k' + 1 := ⟨k - 1, by omega⟩
    unfold quarrelref17_open.l0
    rw [if_neg (by omega)]
    rfl
  | m + 1, j, hj, k, hk => by
    obtain ⟨k, rfl⟩ : ∃ k', k = k' + 1 := ⟨k - 1, by omega⟩
    have ih := open_fuel l hl b n hb hn m (j + 1) (by omega) k (by omega)
    have hlt : j < l.length := by omega
    unfold quarrelref17_open.l0
    rw [if_pos (by omega), if_pos (by omega), if_pos (by omega), if_pos (by omega), if_pos (by omega), rd_ev hlt, rd_ev hb, wrap_succ (by omega) (by omega), show ((j : Int) + 1) = ((j + 1 : Nat) : Int) by omega, ih, openU_next hlt]
    by_cases h1 : l[j].f1 = l[b].f1
    · rw [if_pos h1]
      by_cases h2 : l[j].f0 = 5
      · rw [if_pos h2, if_pos ⟨h1, .inl h2⟩]
      · rw [if_neg h2]
        by_cases h3 : l[j].f0 = 6
        · rw [if_pos h3, if_pos ⟨h1, .inr h3⟩]
        · rw [if_neg h3, if_neg (fun h => h.2.elim h2 h3)]
    · rw [if_neg h1, if_neg (fun h => h1 h.1)]
end Go.Proofs.Ytjmnbbflahacoaa.Hist
/- hist, plain: the last begin, as the tries have it. No condition. -/
namespace Go.Proofs.Ytjmnbbflahacoaa.Hist
open Go.RowKit Go.Proofs.Ytjmnbbflahacoaa.Mem Go.Proofs.Ytjmnbbflahacoaa.PHistTells
set_option linter.unusedVariables false
set_option linter.unusedSimpArgs false

/-- Where a thread's last try began. -/
def lastPlace (ts : List Tr) (th : Int) : Int := match lastOf th ts with
  | some k => match ts[k]? with
    | some t => t.f4
    | none => -1
  | none => -1
theorem lastPlace_snoc (ts : List Tr) (t : Tr) (th : Int) : lastPlace (ts ++ [t]) th = if t.f0 = th then t.f4 else lastPlace ts th := by
  unfold lastPlace
  rw [lastOf_snoc]
  by_cases h : t.f0 = th
  · rw [if_pos (by simpa using h), if_pos h]
    simp
  · rw [if_neg (by simpa using h), if_neg h]
    cases hl : lastOf th ts with
    | none => rfl
    | some k =>
      have := lastOf_lt hl
      simp only [List.getElem?_append_left this]
theorem lastPlace_set {ts : List Tr} {k : Nat} {t t' : Tr} (ht : ts[k]? = some t) (h0 : t'.f0 = t.f0) (h4 : t'.f4 = t.f4) (th : Int) : lastPlace (ts.set k t') th = lastPlace ts th := by
  unfold lastPlace
  rw [lastOf_set th ts k t t' ht h0]
  cases hl : lastOf th ts with
  | none => rfl
  | some j =>
    simp only
    by_cases e : k = j
    · subst e
      rw [List.getElem?_set_self (List.getElem?_eq_some_iff.1 ht).1, ht]
      exact h4
    · rw [List.getElem?_set_ne e]
theorem step_lastB {l : List Ev} {n : Nat} {ts ts' : List Tr} {e : Ev} (h : ∀ th, lastB l th n = lastPlace ts th) (hn : n < l.length) (he : l[n]? = some e) (hs : stepM ts n e = some ts') (th : Int) : lastB l th (n + 1) = lastPlace ts' th := by
  have hen : l[n] = e := by rw [List.getElem?_eq_getElem hn] at he; injection he
  rw [lastB_next hn, hen]
  unfold stepM at hs
  split at hs
  · rename_i h1
    split at hs
    · cases hs
    · injection hs with hs
      subst hs
      rw [lastPlace_snoc]
      by_cases hth : e.f1 = th
      · rw [if_pos ⟨beq_iff_eq.1 h1, hth⟩, if_pos (show (newTr n e).f0 = th from hth)]; rfl
      · rw [if_neg (fun hh => hth hh.2), if_neg (show ¬ (newTr n e).f0 = th from hth)]; exact h th
  · rename_i h1
    have hne : ¬ (e.f0 = 1 ∧ e.f1 = th) := fun hh => h1 (beq_iff_eq.2 hh.1)
    rw [if_neg hne]
    split at hs
    · split at hs
      · cases hs
      · injection hs with hs
        subst hs
        exact h th
    split at hs
    · split at hs
      · rename_i t ht
        split at hs
        · rw [Option.map_eq_some_iff] at hs
          obtain ⟨t', ht1, ht2⟩ := hs
          subst ht2
          obtain ⟨k0, _, _, _, k4⟩ := turnTr_keeps ht1
          rw [lastPlace_set ht k0 k4]
          exact h th
        · cases hs
      · cases hs
    · cases hs
end Go.Proofs.Ytjmnbbflahacoaa.Hist
/- hist, plain: the number of a transaction's last attempt, as the tries have it. No condition. -/
namespace Go.Proofs.Ytjmnbbflahacoaa.Hist
open Go.RowKit Go.Proofs.Ytjmnbbflahacoaa.Mem Go.Proofs.Ytjmnbbflahacoaa.PHistTells Go.Proofs.YtjmnbbflahacoaaW.PrintWords
set_option linter.unusedVariables false
set_option linter.unusedSimpArgs false

/-- The attempt of a transaction's last EvBegin below n; 0: none. -/
def attB (l : List Ev) (th tx : Int) : Nat → Int
  | 0 => 0
  | n + 1 => match l[n]? with
    | some e => if e.f0 = 1 ∧ e.f1 = th ∧ e.f2 = tx then e.f3 else attB l th tx n
    | none => attB l th tx n
theorem attB_next {l : List Ev} {th tx : Int} {n : Nat} (h : n < l.length) : attB l th tx (n + 1) = if l[n].f0 = 1 ∧ l[n].f1 = th ∧ l[n].f2 = tx then l[n].f3 else attB l th tx n := by
  show (match l[n]? with
    | some e => if e.f0 = 1 ∧ e.f1 = th ∧ e.f2 = tx then e.f3 else attB l th tx n
    | none => attB l th tx n) = _
  rw [List.getElem?_eq_getElem h]
theorem step_attB {l : List Ev} {n : Nat} {ts ts' : List Tr} {e : Ev} (h : ∀ th tx, attB l th tx n = (countOf th tx ts : Int)) (hn : n < l.length) (he : l[n]? = some e) (hs : stepM ts n e = some ts') (th tx : Int) : attB l th tx (n + 1) = (countOf th tx ts' : Int) := by
  have hen : l[n] = e := by rw [List.getElem?_eq_getElem hn] at he; injection he
  rw [attB_next hn, hen]
  unfold stepM at hs
  split at hs
  · rename_i h1
    split at hs
    · cases hs
    · rename_i hc
      injection hs with hs
      subst hs
      have hat : e.f3 = (countOf e.f1 e.f2 ts : Int) + 1 := by
        simp only [Bool.or_eq_true, Bool.not_eq_true', not_or, Bool.not_eq_true, Bool.not_eq_false] at hc
        simpa using hc.2
      rw [countOf_snoc]
      by_cases hk : e.f1 = th ∧ e.f2 = tx
      · obtain ⟨rfl, rfl⟩ := hk
        rw [if_pos ⟨beq_iff_eq.1 h1, rfl, rfl⟩, hat, if_pos (by simp [newTr])]
        omega
      · rw [if_neg (fun hh => hk hh.2), if_neg (by simpa [newTr] using hk), h th tx]
        omega
  · rename_i h1
    have hne : ¬ (e.f0 = 1 ∧ e.f1 = th ∧ e.f2 = tx) := fun hh => h1 (beq_iff_eq.2 hh.1)
    rw [if_neg hne]
    split at hs
    · split at hs
      · cases hs
      · injection hs with hs
        subst hs
        exact h th tx
    split at hs
    · split at hs
      · rename_i t ht
        split at hs
        · rw [Option.map_eq_some_iff] at hs
          obtain ⟨t', ht1, ht2⟩ := hs
          subst ht2
          obtain ⟨k0, k1, _⟩ := turnTr_keeps ht1
          rw [countOf_set th tx ts _ t t' ht k0 k1]
          exact h th tx
        · cases hs
      · cases hs
    · cases hs
end Go.Proofs.Ytjmnbbflahacoaa.Hist
/- hist, plain: the document's Right is the program's. No condition. -/
namespace Go.Proofs.Ytjmnbbflahacoaa.Hist
open Go.RowKit Go.Proofs.Ytjmnbbflahacoaa.Mem Go.Proofs.Ytjmnbbflahacoaa.PHistTells Go.Proofs.YtjmnbbflahacoaaW.PrintWords
set_option linter.unusedVariables false
set_option linter.unusedSimpArgs false

theorem openU_iff {l : List Ev} {th : Int} : ∀ (m j : Nat), j + m ≤ l.length → (openU l th m j = true ↔ ∀ (i : Nat) (e : Ev), j ≤ i → i < j + m → l[i]? = some e → ¬ endsOf th e)
  | 0, j, _ => by
    constructor
    · intro _ i e h1 h2
      omega
    · intro _
      rfl
  | m + 1, j, hj => by
    have hlt : j < l.length := by omega
    have ih := openU_iff (l := l) (th := th) m (j + 1) (by omega)
    rw [openU_next hlt]
    by_cases h : l[j].f1 = th ∧ (l[j].f0 = 5 ∨ l[j].f0 = 6)
    · rw [if_pos h]
      constructor
      · intro hh; cases hh
      · intro hh
        exact absurd h (hh j _ (Nat.le_refl _) (by omega) (List.getElem?_eq_getElem hlt))
    · rw [if_neg h, ih]
      constructor
      · intro hh i e h1 h2 h3
        by_cases hi : i = j
        · subst hi
          rw [List.getElem?_eq_getElem hlt] at h3
          injection h3 with h3
          subst h3
          exact h
        · exact hh i e (by omega) (by omega) h3
      · exact fun hh i e h1 h2 h3 => hh i e (by omega) (by omega) h3

/-- All that ties a right trace's first n events to the tries. -/
structure Tied (l : List Ev) (n : Nat) (ts : List Tr) : Prop where
  tr : Traced l n ts
  lb : ∀ th, lastB l th n = lastPlace ts th
  att : ∀ th tx, attB l th tx n = (countOf th tx ts : Int)
  len : ts.length ≤ n
theorem Tied.start (l : List Ev) : Tied l 0 [] :=
  ⟨⟨rfl, fun t h => by simp at h, fun k t h => by simp at h, fun k t h => by simp at h⟩, fun _ => rfl, fun _ _ => rfl, Nat.le_refl _⟩
theorem step_len {ts ts' : List Tr} {i : Int} {e : Ev} (h : stepM ts i e = some ts') : ts'.length ≤ ts.length + 1 := by
  unfold stepM at h
  split at h
  · split at h
    · cases h
    · injection h with h; subst h; simp
  split at h
  · split at h
    · cases h
    · injection h with h; subst h; omega
  split at h
  · split at h
    · split at h
      · rw [Option.map_eq_some_iff] at h
        obtain ⟨t', _, h⟩ := h
        subst h; simp
      · cases h
    · cases h
  · cases h
theorem Tied.step {l : List Ev} {n : Nat} {ts ts' : List Tr} {e : Ev} (h : Tied l n ts) (hn : n < l.length) (he : l[n]? = some e) (hs : stepM ts n e = some ts') : Tied l (n + 1) ts' :=
  ⟨h.tr.step he hs, step_lastB h.lb hn he hs, step_attB h.att hn he hs, by have := step_len hs; have := h.len; omega⟩

/-- The document's 'open', at a thread's last begin. -/
theorem open_tied {l : List Ev} (hl : l.length ≤ 1000000000) {n : Nat} {ts : List Tr} (h : Tied l n ts) (hn : n ≤ l.length) (th : Int) (k : Nat) (hk : l.length + 1 ≤ k) :
    quarrelref17_open.f k l (lastPlace ts th) (n : Int) = some (isOpen ts th) := by
  unfold quarrelref17_open.f
  cases hlo : lastOf th ts with
  | none =>
    have h1 : lastPlace ts th = -1 := by unfold lastPlace; rw [hlo]
    have h2 : isOpen ts th = false := by unfold isOpen; rw [hlo]
    rw [h1, h2, if_pos (by omega)]
  | some q =>
    have hq := lastOf_lt hlo
    have ht : ts[q]? = some ts[q] := List.getElem?_eq_getElem hq
    have hth := lastOf_thread hlo ht
    obtain ⟨b, e, x1, x2, x3, x4, x5, _⟩ := h.tr.ev _ (List.getElem_mem hq)
    have hbl : b < l.length := by omega
    have h1 : lastPlace ts th = (b : Int) := by unfold lastPlace; rw [hlo]; simp only [ht]; exact x1
    have hbe : l[b] = e := by rw [List.getElem?_eq_getElem hbl] at x3; injection x3
    rw [h1, if_neg (by omega), wrap_succ (by omega) (by omega), show ((b : Int) + 1) = ((b + 1 : Nat) : Int) by omega, open_fuel l hl b n hbl hn (n - (b + 1)) (b + 1) (by omega) k (by omega)]
    congr 1
    have hsh := h.tr.shut q _ ht (by rw [hth]; exact hlo)
    have hth2 : l[b].f1 = th := by rw [hbe, ← x5]; exact hth
    have hop : isOpen ts th = true ↔ ts[q].f5 < 0 := by
      unfold isOpen
      rw [hlo]
      simp only [ht, decide_eq_true_eq]
    rw [Bool.eq_iff_iff, hop, hsh, openU_iff _ _ (by omega), hth2, hth]
    constructor
    · intro hh j e' h2 h3 h4
      exact hh j e' (by omega) (by omega) h4
    · intro hh j e' h2 h3 h4
      exact hh j e' (by omega) (by omega) h4
end Go.Proofs.Ytjmnbbflahacoaa.Hist
/- hist, plain: the document's Right is the program's: all of it. No condition. -/
namespace Go.Proofs.Ytjmnbbflahacoaa.Hist
open Go.RowKit Go.Proofs.Ytjmnbbflahacoaa.Mem Go.Proofs.Ytjmnbbflahacoaa.PHistTells Go.Proofs.YtjmnbbflahacoaaW.PrintWords
set_option linter.unusedVariables false
set_option linter.unusedSimpArgs false

theorem turnTr_none {t : Tr} {i : Int} {e : Ev} (h : ¬ (2 ≤ e.f0 ∧ e.f0 ≤ 6)) : turnTr t i e = none := by
  unfold turnTr
  rw [if_neg (by simp; omega), if_neg (by simp; omega), if_neg (by simp; omega), if_neg (by simp; omega)]
theorem turnTr_some {t : Tr} {i : Int} {e : Ev} (h : 2 ≤ e.f0 ∧ e.f0 ≤ 6) : (turnTr t i e).isSome = true := by
  unfold turnTr
  split
  · rfl
  split
  · rfl
  split
  · rfl
  split
  · rfl
  · rename_i h1 h2 h3 h4
    simp at h1 h2 h3 h4
    omega

theorem tied_place {l : List Ev} {n : Nat} {ts : List Tr} (h : Tied l n ts) (hn : n ≤ l.length) {th : Int} {q : Nat} (hlo : lastOf th ts = some q) :
    ∃ (b : Nat) (t : Tr) (hb : b < l.length), lastPlace ts th = (b : Int) ∧ ts[q]? = some t ∧ t.f0 = th ∧ l[b].f1 = t.f0 ∧ l[b].f2 = t.f1 ∧ l[b].f3 = t.f2 := by
  have hq := lastOf_lt hlo
  have ht : ts[q]? = some ts[q] := List.getElem?_eq_getElem hq
  have hth := lastOf_thread hlo ht
  obtain ⟨b, e, x1, x2, x3, x4, x5, x6, x7, x8⟩ := h.tr.ev _ (List.getElem_mem hq)
  have hbl : b < l.length := by omega
  have hbe : l[b] = e := by rw [List.getElem?_eq_getElem hbl] at x3; injection x3
  refine ⟨b, ts[q], hbl, ?_, ht, hth, ?_, ?_, ?_⟩
  · unfold lastPlace; rw [hlo]; simp only [ht]; exact x1
  · rw [hbe]; exact x5.symm
  · rw [hbe]; exact x6.symm
  · rw [hbe]; exact x7.symm

/-- What the document asks of the event at a place. -/
def docOk (l : List Ev) (ts : List Tr) (e : Ev) : Bool :=
  if e.f0 = 1 then !(isOpen ts e.f1) && (e.f3 == (countOf e.f1 e.f2 ts : Int) + 1)
  else if e.f0 = 7 then !(isOpen ts e.f1)
  else if 2 ≤ e.f0 ∧ e.f0 ≤ 6 then isOpen ts e.f1 && (match l[(lastPlace ts e.f1).toNat]? with
    | some b => b.f1 == e.f1 && b.f2 == e.f2 && b.f3 == e.f3
    | none => false)
  else false
theorem ropen_at {l : List Ev} {n : Nat} {ts : List Tr} (hT : Tied l n ts) (hn : n ≤ l.length) {th : Int} (h : isOpen ts th = true) : ∃ b : Nat, b < l.length ∧ lastPlace ts th = (b : Int) := by
  unfold isOpen at h
  cases hlo : lastOf th ts with
  | none => rw [hlo] at h; cases h
  | some x =>
    obtain ⟨b, t, hb, hpl, _⟩ := tied_place hT hn hlo
    exact ⟨b, hb, hpl⟩
theorem doc_step {l : List Ev} {n : Nat} {ts : List Tr} {e : Ev} (hT : Tied l n ts) (hn : n < l.length) : (stepM ts n e).isSome = docOk l ts e := by
  unfold docOk
  by_cases h1 : e.f0 = 1
  · rw [if_pos h1]
    unfold stepM
    rw [if_pos (by rw [h1]; rfl)]
    cases isOpen ts e.f1 <;> cases (e.f3 == (countOf e.f1 e.f2 ts : Int) + 1) <;> rfl
  rw [if_neg h1]
  by_cases h7 : e.f0 = 7
  · rw [if_pos h7]
    unfold stepM
    rw [if_neg (by rw [h7]; decide), if_pos (by rw [h7]; rfl)]
    cases isOpen ts e.f1 <;> rfl
  rw [if_neg h7]
  have hstep : stepM ts n e = match lastOf e.f1 ts with
    | some k => match ts[k]? with
      | some t => if decide (t.f5 < 0) && t.f1 == e.f2 && t.f2 == e.f3 then (turnTr t n e).map (ts.set k) else none
      | none => none
    | none => none := by
    unfold stepM
    rw [if_neg (by simpa using h1), if_neg (by simpa using h7)]
    rfl
  by_cases h26 : 2 ≤ e.f0 ∧ e.f0 ≤ 6
  · rw [if_pos h26]
    cases hlo : lastOf e.f1 ts with
    | none =>
      have h2 : isOpen ts e.f1 = false := by unfold isOpen; rw [hlo]
      rw [h2, hstep, hlo]
      rfl
    | some x =>
      obtain ⟨b, t, hb, hpl, ht, hth, y1, y2, y3⟩ := tied_place hT (by omega) hlo
      have hop : isOpen ts e.f1 = decide (t.f5 < 0) := by unfold isOpen; rw [hlo]; simp only [ht]
      rw [hop, hpl, Int.toNat_natCast, List.getElem?_eq_getElem hb, hstep, hlo]
      simp only [ht]
      rw [y1, y2, y3, hth]
      simp only [beq_self_eq_true, Bool.true_and]
      rw [← Bool.and_assoc]
      split
      · rename_i hc
        rw [hc, Option.isSome_map]
        exact turnTr_some h26
      · rename_i hc
        simp only [Bool.not_eq_true] at hc
        rw [hc]; rfl
  · rw [if_neg h26, hstep]
    cases hlo : lastOf e.f1 ts with
    | none => rfl
    | some x =>
      simp only
      cases ht : ts[x]? with
      | none => rfl
      | some t =>
        simp only
        rw [turnTr_none h26]
        split <;> rfl
/-- The document's Right, as far as n. -/
structure RightTo (l : List Ev) (n : Nat) (ts : List Tr) : Prop where
  tied : Tied l n ts
  rest : rightM l = (readFrom ts n (l.drop n)).isSome
theorem RightTo.start (l : List Ev) : RightTo l 0 [] := ⟨Tied.start l, rfl⟩
theorem RightTo.step {l : List Ev} {n : Nat} {ts : List Tr} (h : RightTo l n ts) (hn : n < l.length) (hd : docOk l ts l[n] = true) : ∃ ts', RightTo l (n + 1) ts' := by
  rw [← doc_step h.tied hn, Option.isSome_iff_exists] at hd
  obtain ⟨ts', hs⟩ := hd
  refine ⟨ts', h.tied.step hn (List.getElem?_eq_getElem hn) hs, ?_⟩
  rw [h.rest, List.drop_eq_getElem_cons hn]
  show ((stepM ts n l[n]).bind fun ts' => readFrom ts' (n + 1) (l.drop (n + 1))).isSome = _
  rw [hs]
  rfl
theorem RightTo.fall {l : List Ev} {n : Nat} {ts : List Tr} (h : RightTo l n ts) (hn : n < l.length) (hd : docOk l ts l[n] = false) : rightM l = false := by
  rw [← doc_step h.tied hn] at hd
  rw [h.rest, List.drop_eq_getElem_cons hn]
  show ((stepM ts n l[n]).bind fun ts' => readFrom ts' (n + 1) (l.drop (n + 1))).isSome = _
  cases hs : stepM ts n l[n] with
  | none => rfl
  | some ts' => rw [hs] at hd; cases hd
theorem RightTo.done {l : List Ev} {ts : List Tr} (h : RightTo l l.length ts) : rightM l = true := by
  rw [h.rest, List.drop_eq_nil_of_le (Nat.le_refl _)]
  rfl
theorem last_tied {l : List Ev} (hl : l.length ≤ 1000000000) {n : Nat} {ts : List Tr} (hT : Tied l n ts) (hn : n ≤ l.length) (th : Int) : quarrelref17_last.f (l.length + 1) l (n : Int) th = some (lastPlace ts th) := by
  unfold quarrelref17_last.f
  rw [wrap_pred (by omega), last_fuel l th hl n (by omega) _ (by omega), hT.lb]
end Go.Proofs.Ytjmnbbflahacoaa.Hist
/- The document's tries: how they lie, what a scan of the trace makes of one, and that this is the program's. No condition. -/
namespace Go.Proofs.Ytjmnbbflahacoaa.Hist
open Go.RowKit Go.Proofs.Ytjmnbbflahacoaa.Mem Go.Proofs.Ytjmnbbflahacoaa.PHistTells Go.Proofs.YtjmnbbflahacoaaW.PrintWords
set_option linter.unusedVariables false
set_option linter.unusedSimpArgs false

/-- The document's try, in memory: as the program's, but for its accesses' type. -/
def kRt : Kd S29 := Kd.iso (Kd.pair (Kd.int .i64) (Kd.pair (Kd.int .i64) (Kd.pair (Kd.int .i64) (Kd.pair (Kd.int .i64) (Kd.pair (Kd.int .i64) (Kd.pair (Kd.int .i64) (Kd.pair (Kd.int .i64) (Kd.pair Kd.bool (Kd.slice 94 kAcc))))))))) (fun x : S29 => (x.f0, x.f1, x.f2, x.f3, x.f4, x.f5, x.f6, x.f7, x.f8))
theorem kRt_openM {w : World} {base : Nat} {ok : Nat → Prop} {x : S29} {cs : List Value} (h : kRt.M w base ok x cs) : ∃ v8, cs = [.int .i64 x.f0, .int .i64 x.f1, .int .i64 x.f2, .int .i64 x.f3, .int .i64 x.f4, .int .i64 x.f5, .int .i64 x.f6, .bool x.f7, v8] ∧ kAcc.R 94 w base ok v8 x.f8 := by
  obtain ⟨_, _, rfl, rfl, ⟨_, _, rfl, rfl, ⟨_, _, rfl, rfl, ⟨_, _, rfl, rfl, ⟨_, _, rfl, rfl, ⟨_, _, rfl, rfl, ⟨_, _, rfl, rfl, ⟨_, _, rfl, rfl, ⟨v8, rfl, g8⟩⟩⟩⟩⟩⟩⟩⟩⟩ := h
  exact ⟨v8, rfl, g8⟩
theorem kRt_mkM (w : World) (base : Nat) (ok : Nat → Prop) (x : S29) {v8 : Value} (g8 : kAcc.R 94 w base ok v8 x.f8) : kRt.M w base ok x [.int .i64 x.f0, .int .i64 x.f1, .int .i64 x.f2, .int .i64 x.f3, .int .i64 x.f4, .int .i64 x.f5, .int .i64 x.f6, .bool x.f7, v8] := ⟨[.int .i64 x.f0], [.int .i64 x.f1, .int .i64 x.f2, .int .i64 x.f3, .int .i64 x.f4, .int .i64 x.f5, .int .i64 x.f6, .bool x.f7, v8], rfl, rfl, ⟨[.int .i64 x.f1], [.int .i64 x.f2, .int .i64 x.f3, .int .i64 x.f4, .int .i64 x.f5, .int .i64 x.f6, .bool x.f7, v8], rfl, rfl, ⟨[.int .i64 x.f2], [.int .i64 x.f3, .int .i64 x.f4, .int .i64 x.f5, .int .i64 x.f6, .bool x.f7, v8], rfl, rfl, ⟨[.int .i64 x.f3], [.int .i64 x.f4, .int .i64 x.f5, .int .i64 x.f6, .bool x.f7, v8], rfl, rfl, ⟨[.int .i64 x.f4], [.int .i64 x.f5, .int .i64 x.f6, .bool x.f7, v8], rfl, rfl, ⟨[.int .i64 x.f5], [.int .i64 x.f6, .bool x.f7, v8], rfl, rfl, ⟨[.int .i64 x.f6], [.bool x.f7, v8], rfl, rfl, ⟨[.bool x.f7], [v8], rfl, rfl, ⟨v8, rfl, g8⟩⟩⟩⟩⟩⟩⟩⟩⟩
/-- An event of a try, as the document takes it. -/
def rturn (t : Tr) (j : Int) (e : Ev) : Tr :=
  if e.f0 = 2 ∨ e.f0 = 3 then withAcc t (t.f8 ++ [accOf t j e])
  else if e.f0 = 4 then withAcc t (t.f8.map (relAcc e.f4))
  else if e.f0 = 5 then { t with f5 := j, f7 := true }
  else if e.f0 = 6 then { t with f5 := j, f6 := e.f6 }
  else t
def ownB (b e : Ev) : Bool := b.f1 == e.f1 && b.f2 == e.f2 && b.f3 == e.f3
def rstep (b : Ev) (t : Tr) (j : Int) (e : Ev) : Tr := if t.f5 < 0 ∧ ownB b e = true then rturn t j e else t
/-- The try that began at b with the event x, behind the first n events. -/
def rscan (l : List Ev) (x : Ev) (b : Nat) : Nat → Tr
  | 0 => newTr b x
  | n + 1 => if n ≤ b then newTr b x else match l[n]? with
    | some e => rstep x (rscan l x b n) n e
    | none => rscan l x b n
theorem rscan_first (l : List Ev) (x : Ev) (b : Nat) : ∀ n, n ≤ b + 1 → rscan l x b n = newTr b x
  | 0, _ => rfl
  | n + 1, h => by unfold rscan; rw [if_pos (by omega)]
theorem rscan_next {l : List Ev} {x : Ev} {b n : Nat} (h : n < l.length) (hb : b < n) : rscan l x b (n + 1) = rstep x (rscan l x b n) n l[n] := by
  show (if n ≤ b then newTr b x else match l[n]? with
    | some e => rstep x (rscan l x b n) n e
    | none => rscan l x b n) = _
  rw [if_neg (by omega), List.getElem?_eq_getElem h]
/-- A try that has ended stays. -/
theorem rscan_stay {l : List Ev} {x : Ev} {b : Nat} : ∀ (d n : Nat), n + d ≤ l.length → b < n → 0 ≤ (rscan l x b n).f5 → rscan l x b (n + d) = rscan l x b n
  | 0, n, _, _, _ => rfl
  | d + 1, n, h, hb, h0 => by
    have e : rscan l x b (n + 1) = rscan l x b n := by
      rw [rscan_next (by omega) hb]
      unfold rstep
      rw [if_neg (fun hh => by omega)]
    rw [show n + (d + 1) = (n + 1) + d by omega, rscan_stay d (n + 1) (by omega) (by omega) (by rw [e]; exact h0), e]
theorem rturn_keeps (t : Tr) (j : Int) (e : Ev) : (rturn t j e).f0 = t.f0 ∧ (rturn t j e).f8.length ≤ t.f8.length + 1 := by
  unfold rturn
  split
  · exact ⟨rfl, by simp [withAcc]⟩
  split
  · exact ⟨rfl, by simp [withAcc]⟩
  split
  · exact ⟨rfl, Nat.le_succ _⟩
  split
  · exact ⟨rfl, Nat.le_succ _⟩
  · exact ⟨rfl, Nat.le_succ _⟩
theorem rscan_acc (l : List Ev) (x : Ev) (b : Nat) : ∀ n, (rscan l x b n).f8.length ≤ n
  | 0 => Nat.zero_le _
  | n + 1 => by
    have ih := rscan_acc l x b n
    unfold rscan
    split
    · exact Nat.zero_le _
    split
    · unfold rstep
      split
      · exact Nat.le_trans (rturn_keeps _ _ _).2 (by omega)
      · omega
    · omega
/-- The document's tries. -/
def rtriesUpTo (l : List Ev) (i : Nat) : List Tr := ((List.range i).filter (beginAt l)).map (fun b => rscan l (l.getD b z31) b l.length)
def rtries (l : List Ev) : List Tr := rtriesUpTo l l.length
theorem rtriesUpTo_next (l : List Ev) (i : Nat) : rtriesUpTo l (i + 1) = rtriesUpTo l i ++ (if beginAt l i then [rscan l (l.getD i z31) i l.length] else []) := by
  unfold rtriesUpTo
  rw [range_filter_next, List.map_append]
  split <;> rfl
theorem rtriesUpTo_length (l : List Ev) (i : Nat) : (rtriesUpTo l i).length ≤ i := by
  unfold rtriesUpTo
  rw [List.length_map]
  exact Nat.le_trans (List.length_filter_le _ _) (by simp)

/-- The program's tries are the document's. -/
def Scanned (l : List Ev) (n : Nat) (ts : List Tr) : Prop := ∀ t ∈ ts, ∀ (b : Nat), t.f4 = (b : Int) → ∀ x, l[b]? = some x → rscan l x b n = t
theorem turn_rturn {t t' : Tr} {i : Int} {e : Ev} (h : turnTr t i e = some t') : rturn t i e = t' := by
  unfold turnTr at h
  unfold rturn
  split at h
  · rename_i h1
    injection h with h
    rw [if_pos (by simpa using h1)]; exact h
  rename_i h1
  rw [if_neg (by simpa using h1)]
  split at h
  · rename_i h2
    injection h with h
    rw [if_pos (by simpa using h2)]; exact h
  rename_i h2
  rw [if_neg (by simpa using h2)]
  split at h
  · rename_i h3
    injection h with h
    rw [if_pos (by simpa using h3)]; exact h
  rename_i h3
  rw [if_neg (by simpa using h3)]
  split at h
  · rename_i h4
    injection h with h
    rw [if_pos (by simpa using h4)]; exact h
  · cases h
theorem rturn_other {t : Tr} {i : Int} {e : Ev} (h : ¬ (2 ≤ e.f0 ∧ e.f0 ≤ 6)) : rturn t i e = t := by
  unfold rturn
  rw [if_neg (by omega), if_neg (by omega), if_neg (by omega), if_neg (by omega)]
theorem ownB_of {x e : Ev} {t : Tr} (h0 : t.f0 = x.f1) (h1 : t.f1 = x.f2) (h2 : t.f2 = x.f3) : ownB x e = (t.f0 == e.f1 && t.f1 == e.f2 && t.f2 == e.f3) := by unfold ownB; rw [h0, h1, h2]

theorem Scanned.step {l : List Ev} {n : Nat} {ts ts' : List Tr} {e : Ev} (h : Scanned l n ts) (hT : Traced l n ts) (hn : n < l.length) (he : l[n]? = some e) (hs : stepM ts n e = some ts') : Scanned l (n + 1) ts' := by
  have hen : l[n] = e := by rw [List.getElem?_eq_getElem hn] at he; injection he
  -- a try that goes on as it was
  have hstay : ∀ t ∈ ts, rturn t n e = t ∨ ¬ (t.f5 < 0) ∨ t.f0 ≠ e.f1 → ∀ (b : Nat), t.f4 = (b : Int) → ∀ x, l[b]? = some x → rscan l x b (n + 1) = t := by
    intro t ht hc b hb x hx
    obtain ⟨b', x', y1, y2, y3, y4, y5, y6, y7, y8⟩ := hT.ev t ht
    obtain rfl : b = b' := by omega
    rw [hx] at y3
    injection y3 with y3
    subst y3
    rw [rscan_next hn y2, h t ht b hb x hx, hen]
    unfold rstep
    split
    · rename_i ho
      rcases hc with hc | hc | hc
      · exact hc
      · exact absurd ho.1 hc
      · rw [ownB_of y5 y6 y7] at ho
        simp only [Bool.and_eq_true, beq_iff_eq] at ho
        exact absurd ho.2.1.1 hc
    · rfl
  unfold stepM at hs
  split at hs
  · rename_i h1
    have h1' := beq_iff_eq.1 h1
    split at hs
    · cases hs
    · injection hs with hs
      subst hs
      intro t ht b hb x hx
      rw [List.mem_append, List.mem_singleton] at ht
      rcases ht with ht | rfl
      · exact hstay t ht (.inl (rturn_other (by rw [h1']; omega))) b hb x hx
      · have hbn : b = n := by
          have : ((n : Nat) : Int) = (b : Int) := hb
          omega
        subst hbn
        rw [he] at hx
        injection hx with hx
        subst hx
        exact rscan_first _ _ _ _ (Nat.le_refl _)
  split at hs
  · rename_i h7
    have h7' := beq_iff_eq.1 h7
    split at hs
    · cases hs
    · injection hs with hs
      subst hs
      intro t ht b hb x hx
      exact hstay t ht (.inl (rturn_other (by rw [h7']; omega))) b hb x hx
  split at hs
  · rename_i k hk
    split at hs
    · rename_i t ht
      split at hs
      · rename_i hc
        rw [Option.map_eq_some_iff] at hs
        obtain ⟨t', ht1, ht2⟩ := hs
        subst ht2
        simp only [Bool.and_eq_true, decide_eq_true_eq, beq_iff_eq] at hc
        obtain ⟨⟨ho, c1⟩, c2⟩ := hc
        have hth := lastOf_thread hk ht
        obtain ⟨k0, k1, k2, k3, k4⟩ := turnTr_keeps ht1
        intro u hu b hb x hx
        obtain ⟨j, hj⟩ := List.getElem?_of_mem hu
        by_cases hjk : j = k
        · subst hjk
          rw [List.getElem?_set_self (List.getElem?_eq_some_iff.1 ht).1] at hj
          injection hj with hj
          subst hj
          obtain ⟨b', x', y1, y2, y3, y4, y5, y6, y7, y8⟩ := hT.ev t (List.mem_of_getElem? ht)
          rw [k4] at hb
          obtain rfl : b = b' := by omega
          rw [hx] at y3
          injection y3 with y3
          subst y3
          rw [rscan_next hn y2, h t (List.mem_of_getElem? ht) b hb x hx, hen]
          unfold rstep
          rw [if_pos ⟨ho, by rw [ownB_of y5 y6 y7, hth, c1, c2]; simp⟩]
          exact turn_rturn ht1
        · rw [List.getElem?_set_ne (Ne.symm hjk)] at hj
          refine hstay u (List.mem_of_getElem? hj) ?_ b hb x hx
          by_cases huo : u.f5 < 0
          · refine .inr (.inr (fun hh => ?_))
            have := hT.last j u hj huo
            rw [hh, hk] at this
            injection this with this
            exact hjk this.symm
          · exact .inr (.inl huo)
      · cases hs
    · cases hs
  · cases hs

theorem readFrom_scanned : ∀ (m n : Nat) (l : List Ev) (ts ts' : List Tr), n + m = l.length → Tied l n ts → Scanned l n ts → readFrom ts n (l.drop n) = some ts' → Tied l l.length ts' ∧ Scanned l l.length ts'
  | 0, n, l, ts, ts', hn, hT, hS, h => by
    obtain rfl : n = l.length := by omega
    rw [List.drop_length] at h
    injection h with h
    subst h
    exact ⟨hT, hS⟩
  | m + 1, n, l, ts, ts', hn, hT, hS, h => by
    have hlt : n < l.length := by omega
    rw [List.drop_eq_getElem_cons hlt] at h
    unfold readFrom at h
    rw [Option.bind_eq_some_iff] at h
    obtain ⟨t1, h1, h2⟩ := h
    have he := List.getElem?_eq_getElem hlt
    exact readFrom_scanned m (n + 1) l t1 ts' (by omega) (hT.step hlt he h1) (hS.step hT.tr hlt he h1) h2

theorem tied_of_right {l : List Ev} (h : rightM l = true) : Tied l l.length (triesM l) ∧ Scanned l l.length (triesM l) := by
  unfold rightM at h
  unfold triesM
  cases hr : readM l with
  | none => rw [hr] at h; cases h
  | some ts => exact readFrom_scanned l.length 0 l [] ts (by omega) (Tied.start l) (fun t ht => by simp at ht) hr
theorem rtries_of_right {l : List Ev} (h : rightM l = true) : rtries l = triesM l := by
  obtain ⟨hT, hS⟩ := tied_of_right h
  have hb := hT.tr.begins
  unfold rtries rtriesUpTo
  have hlen : ((List.range l.length).filter (beginAt l)).length = (triesM l).length := by
    have := congrArg List.length hb
    rw [List.length_map, List.length_map] at this
    exact this.symm
  refine List.ext_getElem (by rw [List.length_map]; exact hlen) (fun i h1 h2 => ?_)
  rw [List.getElem_map]
  obtain ⟨b, hbd⟩ : ∃ b, ((List.range l.length).filter (beginAt l))[i]'(by rw [hlen]; exact h2) = b := ⟨_, rfl⟩
  rw [hbd]
  have h4 : ((triesM l)[i]).f4 = (b : Int) := by
    have h5 : ((triesM l).map (·.f4))[i]? = (((List.range l.length).filter (beginAt l)).map (fun j : Nat => (j : Int)))[i]? := by rw [hb]
    rw [List.getElem?_map, List.getElem?_map, List.getElem?_eq_getElem h2, List.getElem?_eq_getElem (by rw [hlen]; exact h2), hbd] at h5
    simpa using h5
  have hbl : b < l.length := by
    have := List.getElem_mem (l := (List.range l.length).filter (beginAt l)) (n := i) (by rw [hlen]; exact h2)
    rw [hbd] at this
    simpa using (List.mem_filter.1 this).1
  refine hS _ (List.getElem_mem h2) b h4 _ ?_
  simp [List.getD, List.getElem?_eq_getElem hbl]
end Go.Proofs.Ytjmnbbflahacoaa.Hist
/- The document's tries, in memory: what a walk of them needs. No condition. -/
namespace Go.Proofs.Ytjmnbbflahacoaa.Hist
open Go.RowKit Go.Proofs.Ytjmnbbflahacoaa.Mem Go.Proofs.Ytjmnbbflahacoaa.PHistTells Go.Proofs.YtjmnbbflahacoaaW.PrintWords
set_option linter.unusedVariables false
set_option linter.unusedSimpArgs false

theorem info94 : (Try.prog.info? 94).map (fun i => (i.zero, i.size, i.bytes)) = some (some (.agg #[.int .i64 0, .int .i64 0, .int .i64 0, .int .i64 0, .bool false, .bool false]), 6, 40) := by kernel_rfl
theorem info43 : (Try.prog.info? 43).map (fun i => (i.zero, i.size, i.bytes)) = some (some (.agg #[.int .i64 0, .int .i64 0, .int .i64 0, .int .i64 0, .int .i64 0, .int .i64 0, .int .i64 0, .bool false, .slice none 0 0]), 9, 88) := by kernel_rfl

/-- One of the document's tries in block b, its accesses' row the value row. -/
structure RTry (w : World) (base b : Nat) (t : Tr) (row : Value) : Prop where
  blk : Blk w b 43 (trC t row)
  low : base ≤ b
  acc : kAcc.R 94 w base (fun _ => True) row t.f8

theorem RTry.below {w w' : World} {base b : Nat} {t : Tr} {row : Value} (h : RTry w base b t row) (hb : Below w.heap.size w w') : RTry w' base b t row :=
  ⟨h.blk.below hb h.blk.lt, h.low, Kd.R_below h.acc hb⟩
theorem RTry.not_row {w : World} {base b : Nat} {t : Tr} {row : Value} (h : RTry w base b t row) : some b ≠ row.ownBlock := fun he =>
  absurd ((blk_typed h.blk).ne (row_typed h.acc he.symm)) (by decide)
theorem RTry.cells {w : World} {base b : Nat} {t : Tr} {row : Value} (h : RTry w base b t row) : w.cell? ⟨b, 0, none⟩ = some (.int .i64 t.f0) ∧ w.cell? ⟨b, 1, none⟩ = some (.int .i64 t.f1) ∧ w.cell? ⟨b, 2, none⟩ = some (.int .i64 t.f2) ∧ w.cell? ⟨b, 3, none⟩ = some (.int .i64 t.f3) ∧
    w.cell? ⟨b, 4, none⟩ = some (.int .i64 t.f4) ∧ w.cell? ⟨b, 5, none⟩ = some (.int .i64 t.f5) ∧ w.cell? ⟨b, 6, none⟩ = some (.int .i64 t.f6) ∧ w.cell? ⟨b, 7, none⟩ = some (.bool t.f7) ∧ w.cell? ⟨b, 8, none⟩ = some row :=
  ⟨h.blk.cell 0 _ rfl, h.blk.cell 1 _ rfl, h.blk.cell 2 _ rfl, h.blk.cell 3 _ rfl, h.blk.cell 4 _ rfl, h.blk.cell 5 _ rfl, h.blk.cell 6 _ rfl, h.blk.cell 7 _ rfl, h.blk.cell 8 _ rfl⟩
theorem RTry.set {w : World} {base b : Nat} {t t' : Tr} {row : Value} (h : RTry w base b t row) (o : Nat) (v : Value) (h8 : t'.f8 = t.f8) (hc : (trC t row).set o v = trC t' row) : RTry (w.setCell ⟨b, o, none⟩ v) base b t' row :=
  ⟨hc ▸ h.blk.set o v, h.low, by
    rw [h8]
    exact Kd.R_mono (Kd.R_far (p := ⟨b, o, none⟩) (Kd.R_tight (by rfl) h.acc) (fun k hk he => h.not_row (by rw [← hk]; exact congrArg some he.symm)) _) (fun _ _ => trivial)⟩
theorem RTry.far {w : World} {base b g : Nat} {t : Tr} {row : Value} (h : RTry w base b t row) (hb : b ≠ g) (hr : row.ownBlock ≠ some g) (o : Nat) (v : Value) : RTry (w.setCell ⟨g, o, none⟩ v) base b t row :=
  ⟨h.blk.far hb v, h.low, Kd.R_mono (Kd.R_far (p := ⟨g, o, none⟩) (Kd.R_tight (by rfl) h.acc) (fun k hk he => hr (by rw [← hk]; exact congrArg some he)) _) (fun _ _ => trivial)⟩

/-- One access is marked. -/
theorem RTry.mark {w : World} {base bt g n c : Nat} {t : Tr} {L : List Acc} (h : RTry w base bt (withAcc t L) (.slice (some ⟨g, 0, none⟩) n c)) {k : Nat} {x : Acc} (hx : L[k]? = some x) :
    RTry (w.setCell ⟨g, k * 6 + 5, none⟩ (.bool true)) base bt (withAcc t (L.set k { x with f5 := true })) (.slice (some ⟨g, 0, none⟩) n c) := by
  obtain ⟨hk, he⟩ := List.getElem?_eq_some_iff.1 hx
  have hne : bt ≠ g := fun e => h.not_row (by rw [e]; rfl)
  refine ⟨h.blk.far hne _, h.low, fun _ _ => trivial, own_field h.acc.2 hk (by decide : 5 < 6) _ _ (fun cs hc => ?_) (fun p cs hc => ?_)⟩
  · have hc' : kAcc.M w base (fun k => (fun _ => True) k ∧ some k ≠ (Value.slice (some ⟨g, 0, none⟩) n c).ownBlock) x cs := he ▸ hc
    obtain rfl := k33_openM hc'
    exact k33_mkM _ _ _ { x with f5 := true }
  · obtain rfl := k33_openM hc
    exact k33_mkM _ _ _ p
/-- The element at k, its cells. -/
theorem RTry.at {w : World} {base bt g n c : Nat} {t : Tr} (h : RTry w base bt t (.slice (some ⟨g, 0, none⟩) n c)) (k : Nat) (x : Acc) (hx : t.f8[k]? = some x) :
    w.cell? ⟨g, k * 6 + 1, none⟩ = some (.int .i64 x.f1) ∧ w.cell? ⟨g, k * 6 + 2, none⟩ = some (.int .i64 x.f2) ∧ w.cell? ⟨g, k * 6 + 5, none⟩ = some (.bool x.f5) ∧ w.frozen? ⟨g, k * 6 + 5, none⟩ = false := by
  have hk := (List.getElem?_eq_some_iff.1 hx).1
  have hR := h.acc
  have hn := (Kd.R_reads' hR).1
  obtain ⟨cs, hcl, hM, hcc, hfr⟩ := Kd.R_elem hR z33 (k : Int) (by omega) (by omega)
  simp only [Int.toNat_natCast, List.getD_eq_getElem?_getD, hx, Option.getD_some] at hM hcc hfr
  obtain rfl := k33_openM hM
  exact ⟨hcc 1 _ rfl, hcc 2 _ rfl, hcc 5 _ rfl, hfr 5⟩
theorem RTry.form {w : World} {base bt n c : Nat} {A : Option Addr} {t : Tr} (h : RTry w base bt t (.slice A n c)) (hl : 0 < t.f8.length) : ∃ g, A = some ⟨g, 0, none⟩ := by
  obtain ⟨g, cap, he, _⟩ := Kd.R_form h.acc hl
  injection he with he _ _
  exact ⟨g, he⟩

/-- An event's fields, at a place of the trace. -/
theorem ev_at {w : World} {A : Option Addr} {l : List Ev} (h : kEv.C w A l.length l) (k : Nat) (hk : k < l.length) :
    ∃ ad, A = some ad ∧ w.cell? (ad.add (k * 7)) = some (.int .i64 l[k].f0) ∧ w.cell? ⟨(ad.add (k * 7)).block, (ad.add (k * 7)).off + 1, none⟩ = some (.int .i64 l[k].f1) ∧ w.cell? ⟨(ad.add (k * 7)).block, (ad.add (k * 7)).off + 2, none⟩ = some (.int .i64 l[k].f2) ∧
      w.cell? ⟨(ad.add (k * 7)).block, (ad.add (k * 7)).off + 3, none⟩ = some (.int .i64 l[k].f3) ∧ w.cell? ⟨(ad.add (k * 7)).block, (ad.add (k * 7)).off + 4, none⟩ = some (.int .i64 l[k].f4) ∧ w.cell? ⟨(ad.add (k * 7)).block, (ad.add (k * 7)).off + 5, none⟩ = some (.int .i64 l[k].f5) ∧
      w.cell? ⟨(ad.add (k * 7)).block, (ad.add (k * 7)).off + 6, none⟩ = some (.int .i64 l[k].f6) := by
  obtain ⟨ad, rfl, h0, h1, h2, h3, h4, h5, h6⟩ := at_T31 h (k : Int) (by omega) (by omega)
  simp only [Int.toNat_natCast, rd_ev hk] at h0 h1 h2 h3 h4 h5 h6
  exact ⟨ad, rfl, h0, h1, h2, h3, h4, h5, h6⟩
theorem own_any (w : World) (b e : Ev) : Calls Try.prog 56 #[evV b, evV e] w fun ed w' => ed = .returned (.bool (ownB b e)) ∧ Below w.heap.size w w' :=
  quarrelref17_own.calls _ _ _ _ _ _ _ _ _ _ _ _ _ _ (ownB b e) w (by
    unfold quarrelref17_own.f ownB
    by_cases h1 : b.f1 = e.f1
    · rw [if_pos h1, beq_iff_eq.2 h1]
      by_cases h2 : b.f2 = e.f2
      · rw [if_pos h2, beq_iff_eq.2 h2]; rfl
      · rw [if_neg h2, beq_eq_false_iff_ne.2 h2]; rfl
    · rw [if_neg h1, beq_eq_false_iff_ne.2 h1]; rfl)

/-- What stands in a scan: the try at hand, and those that are done. -/
structure Scan (w : World) (base bt : Nat) (cur : Tr) (row v : Value) (out : List Tr) : Prop where
  tr : RTry w bt bt cur row
  out : kRt.R 43 w base (fun k => k < bt) v out
  low : base ≤ bt
theorem Scan.below {w w' : World} {base bt : Nat} {cur : Tr} {row v : Value} {out : List Tr} (h : Scan w base bt cur row v out) (hb : Below w.heap.size w w') : Scan w' base bt cur row v out :=
  ⟨h.tr.below hb, Kd.R_below h.out hb, h.low⟩
theorem Scan.set {w : World} {base bt : Nat} {cur cur' : Tr} {row v : Value} {out : List Tr} (h : Scan w base bt cur row v out) (o : Nat) (u : Value) (h8 : cur'.f8 = cur.f8) (hc : (trC cur row).set o u = trC cur' row) : Scan (w.setCell ⟨bt, o, none⟩ u) base bt cur' row v out :=
  ⟨h.tr.set o u h8 hc, Kd.R_far (p := ⟨bt, o, none⟩) h.out (fun k hk => Nat.ne_of_lt hk) u, h.low⟩

theorem scan_ev {w wr : World} {base bt : Nat} {e : Ev} {cur : Tr} {row v : Value} {out : List Tr} (hW : Below base w wr) (hS : Scan wr base bt cur row v out) :
    Scan (wr.alloc (.cells #[.int .i64 e.f0, .int .i64 e.f1, .int .i64 e.f2, .int .i64 e.f3, .int .i64 e.f4, .int .i64 e.f5, .int .i64 e.f6] 31)) base bt cur row v out ∧
    Blk (wr.alloc (.cells #[.int .i64 e.f0, .int .i64 e.f1, .int .i64 e.f2, .int .i64 e.f3, .int .i64 e.f4, .int .i64 e.f5, .int .i64 e.f6] 31)) wr.heap.size 31 (evC e) ∧
    Below base w (wr.alloc (.cells #[.int .i64 e.f0, .int .i64 e.f1, .int .i64 e.f2, .int .i64 e.f3, .int .i64 e.f4, .int .i64 e.f5, .int .i64 e.f6] 31)) :=
  ⟨hS.below ((Below.refl _ _).alloc (Nat.le_refl _) _), Blk.new wr _ _, hW.alloc (Nat.le_trans hS.low (Nat.le_of_lt hS.tr.blk.lt)) _⟩
theorem ev_blk {w : World} {b : Nat} {e : Ev} (h : Blk w b 31 (evC e)) : w.cell? ⟨b, 0, none⟩ = some (.int .i64 e.f0) ∧ w.cell? ⟨b, 1, none⟩ = some (.int .i64 e.f1) ∧ w.cell? ⟨b, 2, none⟩ = some (.int .i64 e.f2) ∧ w.cell? ⟨b, 3, none⟩ = some (.int .i64 e.f3) ∧
    w.cell? ⟨b, 4, none⟩ = some (.int .i64 e.f4) ∧ w.cell? ⟨b, 5, none⟩ = some (.int .i64 e.f5) ∧ w.cell? ⟨b, 6, none⟩ = some (.int .i64 e.f6) :=
  ⟨h.cell 0 _ rfl, h.cell 1 _ rfl, h.cell 2 _ rfl, h.cell 3 _ rfl, h.cell 4 _ rfl, h.cell 5 _ rfl, h.cell 6 _ rfl⟩
theorem scan_new {w wr : World} {i : Int} {x : Ev} {v : Value} {out : List Tr} (hW : Below w.heap.size w wr) (hO : kRt.R 43 wr w.heap.size (fun _ => True) v out) :
    Scan (wr.alloc (.cells #[.int .i64 x.f1, .int .i64 x.f2, .int .i64 x.f3, .int .i64 x.f5, .int .i64 i, .int .i64 (-1), .int .i64 0, .bool false, .slice none 0 0] 43)).drew w.heap.size wr.heap.size (newTr i x) (.slice none 0 0) v out ∧
    Below w.heap.size w (wr.alloc (.cells #[.int .i64 x.f1, .int .i64 x.f2, .int .i64 x.f3, .int .i64 x.f5, .int .i64 i, .int .i64 (-1), .int .i64 0, .bool false, .slice none 0 0] 43)).drew := by
  refine ⟨⟨⟨(Blk.new wr _ _).drew, Nat.le_refl _, Kd.R_nil _ _ _ _ _⟩, ?_, hW.size⟩, (hW.alloc hW.size _).drew⟩
  have h1 := Kd.R_below (Kd.R_bound hO) (((Below.refl wr.heap.size wr).alloc (Nat.le_refl _) (.cells #[.int .i64 x.f1, .int .i64 x.f2, .int .i64 x.f3, .int .i64 x.f5, .int .i64 i, .int .i64 (-1), .int .i64 0, .bool false, .slice none 0 0] 43)).drew)
  refine Kd.R_mono h1 (fun k hk => ?_)
  obtain ⟨_, _, _, q, hq, cells, hc⟩ := hk
  exact (Array.getElem?_eq_some_iff.1 hc).1


theorem Scan.drewN {w : World} {base bt : Nat} {cur : Tr} {row v : Value} {out : List Tr} (h : Scan w base bt cur row v out) (n : Nat) : Scan (w.drewN n) base bt cur row v out := h.below ((Below.refl _ _).drewN n)
theorem row_from {w : World} {b T : Nat} {v : Value} {xs : List Acc} (h : kAcc.R T w b (fun _ => True) v xs) {k : Nat} (hk : v.ownBlock = some k) : b ≤ k := by
  obtain ⟨inner, ho⟩ := Kd.R_own h
  exact own_base ho k hk
theorem row_upto {w : World} {b T : Nat} {v : Value} {xs : List Acc} (h : kAcc.R T w b (fun _ => True) v xs) {k : Nat} (hk : v.ownBlock = some k) : k < w.heap.size := by
  obtain ⟨inner, ho⟩ := Kd.R_own h
  exact own_lt ho k hk
theorem Scan.mark {w : World} {base bt g n c : Nat} {cur : Tr} {L : List Acc} {v : Value} {out : List Tr} (h : Scan w base bt (withAcc cur L) (.slice (some ⟨g, 0, none⟩) n c) v out) {k : Nat} {x : Acc} (hx : L[k]? = some x) :
    Scan (w.setCell ⟨g, k * 6 + 5, none⟩ (.bool true)) base bt (withAcc cur (L.set k { x with f5 := true })) (.slice (some ⟨g, 0, none⟩) n c) v out :=
  ⟨h.tr.mark hx, Kd.R_far (p := ⟨g, k * 6 + 5, none⟩) h.out (fun j hj => by have := row_from h.tr.acc (k := g) rfl; show j ≠ g; omega) _, h.low⟩
/-- An access is put down. -/
theorem scan_append {w w6 : World} {base bt : Nat} {cur : Tr} {a : Acc} {row v1 v : Value} {out : List Tr} (h : Scan w base bt cur row v out) (hR : kAcc.R 94 w6 bt (fun _ => True) v1 (cur.f8 ++ [a])) (hg : w.grownBy w6 row.ownBlock)
    (hat : v1.ownBlock = row.ownBlock ∨ ∃ b, v1.ownBlock = some b ∧ w.heap.size ≤ b) :
    w6.cell? ⟨bt, 8, none⟩ = some row ∧ w6.frozen? ⟨bt, 8, none⟩ = false ∧ Scan (w6.setCell ⟨bt, 8, none⟩ v1) base bt (withAcc cur (cur.f8 ++ [a])) v1 v out := by
  have hB : Blk w6 bt 43 (trC cur row) := (hg.block bt h.tr.blk.lt h.tr.not_row).trans h.tr.blk
  have hne : some bt ≠ v1.ownBlock := fun he => absurd ((blk_typed hB).ne (row_typed hR he.symm)) (by decide)
  refine ⟨hB.cell 8 _ rfl, hB.free 8, ⟨hB.set 8 v1, Nat.le_refl _, Kd.R_mono (Kd.R_far (p := ⟨bt, 8, none⟩) (Kd.R_tight (by rfl) hR) (fun k hk he => hne (by rw [← hk]; exact congrArg some he.symm)) _) (fun _ _ => trivial)⟩, ?_, h.low⟩
  refine Kd.R_far (p := ⟨bt, 8, none⟩) (Kd.R_step h.out (fun k hk hlt => hg.block k hlt (fun he => ?_))) (fun k hk => Nat.ne_of_lt hk) _
  have := row_from h.tr.acc he.symm
  have : k < bt := hk
  omega
theorem scan_push {w : World} {base bt : Nat} {cur : Tr} {row v : Value} {out : List Tr} (h : Scan w base bt cur row v out) : kRt.M w base (fun k => bt ≤ k) cur (trC cur row) ∧ ∀ k, bt ≤ k → True ∧ some k ≠ v.ownBlock := by
  refine ⟨kRt_mkM _ _ _ cur (Kd.R_lower (Kd.R_mono (Kd.R_bound h.tr.acc) (fun k hk => hk.2.1)) h.low), fun k hk => ⟨trivial, fun he => ?_⟩⟩
  have : k < bt := h.out.1 k he.symm
  omega
theorem Scan.outR {w : World} {base bt : Nat} {cur : Tr} {row v : Value} {out : List Tr} (h : Scan w base bt cur row v out) : kRt.R 43 w base (fun _ => True) v out := Kd.R_mono h.out (fun _ _ => trivial)

/-- The access that is put together, its Own so far. -/
def accC (k : Int) (e : Ev) (o : Bool) : List Value := [.int .i64 k, .int .i64 e.f0, .int .i64 e.f4, .int .i64 e.f5, .bool o, .bool false]
theorem acc_new {w wr : World} {base bt be : Nat} {k : Int} {e : Ev} {cur : Tr} {row v : Value} {out : List Tr} (hW : Below base w wr) (hS : Scan wr base bt cur row v out) (hE : Blk wr be 31 (evC e)) :
    Scan (wr.alloc (.cells #[.int .i64 k, .int .i64 e.f0, .int .i64 e.f4, .int .i64 e.f5, .bool false, .bool false] 94)) base bt cur row v out ∧
    Blk (wr.alloc (.cells #[.int .i64 k, .int .i64 e.f0, .int .i64 e.f4, .int .i64 e.f5, .bool false, .bool false] 94)) wr.heap.size 94 (accC k e false) ∧
    Blk (wr.alloc (.cells #[.int .i64 k, .int .i64 e.f0, .int .i64 e.f4, .int .i64 e.f5, .bool false, .bool false] 94)) be 31 (evC e) ∧
    Below base w (wr.alloc (.cells #[.int .i64 k, .int .i64 e.f0, .int .i64 e.f4, .int .i64 e.f5, .bool false, .bool false] 94)) ∧ base ≤ wr.heap.size ∧ row.ownBlock ≠ some wr.heap.size :=
  ⟨hS.below ((Below.refl _ _).alloc (Nat.le_refl _) _), Blk.new wr _ _, hE.alloc _, hW.alloc (Nat.le_trans hS.low (Nat.le_of_lt hS.tr.blk.lt)) _, Nat.le_trans hS.low (Nat.le_of_lt hS.tr.blk.lt), fun he => by have := row_upto hS.tr.acc he; omega⟩
/-- What stands while Own is looked for: nothing but the access's cells turns. -/
structure Asks (w : World) (base bt be ba : Nat) (k : Int) (e : Ev) (o : Bool) (cur : Tr) (row v : Value) (out : List Tr) : Prop where
  sc : Scan w base bt cur row v out
  ev : Blk w be 31 (evC e)
  acc : Blk w ba 94 (accC k e o)
  low : base ≤ ba
  row : row.ownBlock ≠ some ba
  out : bt < ba
theorem Asks.set {w : World} {base bt be ba : Nat} {k : Int} {e : Ev} {o o' : Bool} {cur : Tr} {row v : Value} {out : List Tr} (h : Asks w base bt be ba k e o cur row v out) (u : Bool) (hu : u = o') : Asks (w.setCell ⟨ba, 4, none⟩ (.bool u)) base bt be ba k e o' cur row v out := by
  subst hu
  refine ⟨⟨h.sc.tr.far (Nat.ne_of_lt h.out) h.row 4 _, Kd.R_far (p := ⟨ba, 4, none⟩) h.sc.out (fun j hj => ?_) _, h.sc.low⟩, h.ev.far (h.ev.ne h.acc (by decide)) _, h.acc.set 4 _, h.low, h.row, h.out⟩
  have : j < bt := hj
  have := h.out
  show j ≠ ba
  omega
theorem Asks.drewN {w : World} {base bt be ba : Nat} {k : Int} {e : Ev} {o : Bool} {cur : Tr} {row v : Value} {out : List Tr} (h : Asks w base bt be ba k e o cur row v out) (n : Nat) : Asks (w.drewN n) base bt be ba k e o cur row v out :=
  ⟨h.sc.drewN n, h.ev, h.acc, h.low, h.row, h.out⟩
theorem Asks.drew {w : World} {base bt be ba : Nat} {k : Int} {e : Ev} {o : Bool} {cur : Tr} {row v : Value} {out : List Tr} (h : Asks w base bt be ba k e o cur row v out) : Asks w.drew base bt be ba k e o cur row v out :=
  ⟨h.sc.below ((Below.refl _ _).drew), h.ev, h.acc, h.low, h.row, h.out⟩
theorem acc_cells' {w : World} {b : Nat} {k : Int} {e : Ev} {o : Bool} (h : Blk w b 94 (accC k e o)) : w.cell? ⟨b, 0, none⟩ = some (.int .i64 k) ∧ w.cell? ⟨b, 1, none⟩ = some (.int .i64 e.f0) ∧ w.cell? ⟨b, 2, none⟩ = some (.int .i64 e.f4) ∧ w.cell? ⟨b, 3, none⟩ = some (.int .i64 e.f5) ∧ w.cell? ⟨b, 4, none⟩ = some (.bool o) ∧ w.cell? ⟨b, 5, none⟩ = some (.bool false) :=
  ⟨h.cell 0 _ rfl, h.cell 1 _ rfl, h.cell 2 _ rfl, h.cell 3 _ rfl, h.cell 4 _ rfl, h.cell 5 _ rfl⟩
def ownTo (e : Ev) (l : List Acc) (n : Nat) : Bool := e.f0 == 2 && (l.take n).any (wrote e.f4)
theorem ownTo_next (e : Ev) (l : List Acc) {n : Nat} (h : n < l.length) : ownTo e l (n + 1) = (ownTo e l n || (e.f0 == 2 && wrote e.f4 l[n])) := by
  unfold ownTo
  rw [List.take_succ_eq_append_getElem h, List.any_append]
  cases (e.f0 == 2) <;> simp
theorem ownTo_all (t : Tr) (i : Int) (e : Ev) : accOf t i e = ⟨i, e.f0, e.f4, e.f5, ownTo e t.f8 t.f8.length, false⟩ := by
  unfold accOf ownTo
  rw [List.take_length]
end Go.Proofs.Ytjmnbbflahacoaa.Hist
/- A row of one struct, made: as a theorem of its own. No condition. -/
namespace Go.Proofs.Ytjmnbbflahacoaa.Hist
open Go.RowKit Go.Proofs.Ytjmnbbflahacoaa.Mem Go.Proofs.Ytjmnbbflahacoaa.PHistTells Go.Proofs.YtjmnbbflahacoaaW.PrintWords
set_option linter.unusedVariables false
set_option linter.unusedSimpArgs false

set_option maxRecDepth 100000 in
theorem bs_acc (o : Oper) (n : Nat) (ho : o.op = .buildSlice 41 1 #[(0, .tmp n)]) (a : Act) (x0 x1 x2 x3 x4 x5 : Value) (hx : a.eval (.tmp n) = .agg #[x0, x1, x2, x3, x4, x5]) (W : World) :
    (execOp a.eval o).run Try.prog W = .ok (.value (.slice (some ⟨W.heap.size, 0, none⟩) 1 1)) (W.alloc (.cells #[x0, x1, x2, x3, x4, x5] 94)) := by
  have hx' : a.tmps[n]?.getD undef = .agg #[x0, x1, x2, x3, x4, x5] := by simpa [go_sem] using hx
  clear hx
  unfold execOp
  rw [ho]
  go_simp
set_option maxRecDepth 100000 in
theorem bs_try (o : Oper) (n : Nat) (ho : o.op = .buildSlice 39 1 #[(0, .tmp n)]) (a : Act) (x0 x1 x2 x3 x4 x5 x6 x7 x8 : Value) (hx : a.eval (.tmp n) = .agg #[x0, x1, x2, x3, x4, x5, x6, x7, x8]) (W : World) :
    (execOp a.eval o).run Try.prog W = .ok (.value (.slice (some ⟨W.heap.size, 0, none⟩) 1 1)) (W.alloc (.cells #[x0, x1, x2, x3, x4, x5, x6, x7, x8] 43)) := by
  have hx' : a.tmps[n]?.getD undef = .agg #[x0, x1, x2, x3, x4, x5, x6, x7, x8] := by simpa [go_sem] using hx
  clear hx
  unfold execOp
  rw [ho]
  go_simp
end Go.Proofs.Ytjmnbbflahacoaa.Hist
/- The document's commits, plain: the one list that is sorted by ends. No condition. -/
namespace Go.Proofs.Ytjmnbbflahacoaa.Hist
open Go.RowKit Go.Proofs.Ytjmnbbflahacoaa.Mem Go.Proofs.Ytjmnbbflahacoaa.PHistTells Go.Proofs.YtjmnbbflahacoaaW.PrintWords
set_option linter.unusedVariables false
set_option linter.unusedSimpArgs false

/-- Ends are places behind us, and each is of one try. -/
structure Ends (n : Nat) (ts : List Tr) : Prop where
  lt : ∀ t ∈ ts, t.f5 < n
  com : ∀ t ∈ ts, t.f7 = true → 0 ≤ t.f5
  one : ∀ (i j : Nat) (t u : Tr), ts[i]? = some t → ts[j]? = some u → 0 ≤ t.f5 → t.f5 = u.f5 → i = j
theorem Ends.start : Ends 0 [] := ⟨fun t h => by simp at h, fun t h => by simp at h, fun i j t u h => by simp at h⟩
theorem turn_ends {t t' : Tr} {n : Nat} {e : Ev} (h : turnTr t (n : Int) e = some t') : (t'.f5 = t.f5 ∧ t'.f7 = t.f7) ∨ t'.f5 = n := by
  unfold turnTr at h
  split at h
  · injection h with h; subst h; exact .inl ⟨rfl, rfl⟩
  split at h
  · injection h with h; subst h; exact .inl ⟨rfl, rfl⟩
  split at h
  · injection h with h; subst h; exact .inr rfl
  split at h
  · injection h with h; subst h; exact .inr rfl
  · cases h
theorem Ends.step {n : Nat} {ts ts' : List Tr} {e : Ev} (h : Ends n ts) (hs : stepM ts n e = some ts') : Ends (n + 1) ts' := by
  unfold stepM at hs
  split at hs
  · split at hs
    · cases hs
    · injection hs with hs
      subst hs
      refine ⟨fun t ht => ?_, fun t ht => ?_, fun i j t u hi hj h0 he => ?_⟩
      · rw [List.mem_append, List.mem_singleton] at ht
        rcases ht with ht | rfl
        · have := h.lt t ht; omega
        · show (-1 : Int) < _; omega
      · rw [List.mem_append, List.mem_singleton] at ht
        rcases ht with ht | rfl
        · exact h.com t ht
        · intro hh; cases hh
      · have hlt : ∀ (i : Nat) (t : Tr), (ts ++ [newTr (n : Int) e])[i]? = some t → 0 ≤ t.f5 → ts[i]? = some t := by
          intro i t hi h0
          rcases Nat.lt_or_ge i ts.length with hl | hl
          · rwa [List.getElem?_append_left hl] at hi
          · rw [List.getElem?_append_right hl] at hi
            have hk0 : i - ts.length = 0 := by
              have := (List.getElem?_eq_some_iff.1 hi).1
              simp at this
              omega
            rw [hk0] at hi
            simp only [List.getElem?_cons_zero, Option.some.injEq] at hi
            subst hi
            have : (0 : Int) ≤ -1 := h0
            omega
        exact h.one i j t u (hlt i t hi h0) (hlt j u hj (by omega)) h0 he
  split at hs
  · split at hs
    · cases hs
    · injection hs with hs
      subst hs
      exact ⟨fun t ht => by have := h.lt t ht; omega, h.com, h.one⟩
  split at hs
  · rename_i k hk
    split at hs
    · rename_i t ht
      split at hs
      · rename_i hc
        rw [Option.map_eq_some_iff] at hs
        obtain ⟨t', ht1, ht2⟩ := hs
        subst ht2
        simp only [Bool.and_eq_true, decide_eq_true_eq, beq_iff_eq] at hc
        have hkl := (List.getElem?_eq_some_iff.1 ht).1
        have htm := List.mem_of_getElem? ht
        have hte := turn_ends ht1
        refine ⟨fun u hu => ?_, fun u hu hu7 => ?_, fun i j a b hi hj h0 he => ?_⟩
        · rcases List.mem_or_eq_of_mem_set hu with hu | rfl
          · have := h.lt u hu; omega
          · have := h.lt t htm
            rcases hte with hte | hte <;> omega
        · rcases List.mem_or_eq_of_mem_set hu with hu | rfl
          · exact h.com u hu hu7
          · rcases hte with hte | hte
            · rw [hte.2] at hu7
              rw [hte.1]
              exact h.com t htm hu7
            · omega
        · by_cases hik : k = i
          · subst hik
            rw [List.getElem?_set_self hkl] at hi
            injection hi with hi
            subst hi
            by_cases hjk : k = j
            · exact hjk
            · rw [List.getElem?_set_ne hjk] at hj
              have h2 := h.lt b (List.mem_of_getElem? hj)
              rcases hte with hte | hte
              · have := hc.1.1; omega
              · omega
          · rw [List.getElem?_set_ne hik] at hi
            have h1 := h.lt a (List.mem_of_getElem? hi)
            by_cases hjk : k = j
            · subst hjk
              rw [List.getElem?_set_self hkl] at hj
              injection hj with hj
              subst hj
              rcases hte with hte | hte
              · have := hc.1.1; omega
              · omega
            · rw [List.getElem?_set_ne hjk] at hj
              exact h.one i j a b hi hj h0 he
      · cases hs
    · cases hs
  · cases hs
theorem readFrom_ends : ∀ (l : List Ev) (n : Nat) (ts ts' : List Tr), Ends n ts → readFrom ts n l = some ts' → Ends (n + l.length) ts'
  | [], n, ts, ts', h, hr => by
    injection hr with hr
    subst hr
    exact h
  | e :: l, n, ts, ts', h, hr => by
    unfold readFrom at hr
    rw [Option.bind_eq_some_iff] at hr
    obtain ⟨t1, h1, h2⟩ := hr
    have := readFrom_ends l (n + 1) t1 ts' (h.step h1) h2
    rw [List.length_cons, show n + (l.length + 1) = n + 1 + l.length by omega]
    exact this
theorem ends_of_right {l : List Ev} (h : rightM l = true) : Ends l.length (triesM l) := by
  unfold rightM at h
  unfold triesM
  cases hr : readM l with
  | none => rw [hr] at h; cases h
  | some ts =>
    have := readFrom_ends l 0 [] ts Ends.start hr
    rwa [Nat.zero_add] at this

/-- The document's commits. -/
def rcommitsUpTo (ts : List Tr) (i : Nat) : List Tr := (List.range i).flatMap (fun i : Nat => ts.filter (fun t => t.f7 && t.f5 == (i : Int)))
def rcommits (l : List Ev) : List Tr := rcommitsUpTo (rtries l) l.length
theorem rcommitsUpTo_next (ts : List Tr) (i : Nat) : rcommitsUpTo ts (i + 1) = rcommitsUpTo ts i ++ ts.filter (fun t => t.f7 && t.f5 == (i : Int)) := by
  unfold rcommitsUpTo
  rw [List.range_succ, List.flatMap_append]
  simp

theorem split_last : ∀ (cs : List Tr) (n : Nat), cs.Pairwise (fun a b => a.f5 ≤ b.f5) → (∀ t ∈ cs, t.f5 < (n : Int) + 1) → cs = cs.filter (fun t => decide (t.f5 < (n : Int))) ++ cs.filter (fun t => t.f5 == (n : Int))
  | [], n, _, _ => rfl
  | a :: cs, n, hp, hlt => by
    rw [List.pairwise_cons] at hp
    have ih := split_last cs n hp.2 (fun t ht => hlt t (List.mem_cons_of_mem _ ht))
    by_cases h : a.f5 < (n : Int)
    · rw [List.filter_cons, if_pos (by simpa using h), List.filter_cons, if_neg (by simp; omega), List.cons_append, ← ih]
    · have ha : a.f5 = (n : Int) := by have := hlt a List.mem_cons_self; omega
      have hall : ∀ t ∈ a :: cs, t.f5 = (n : Int) := by
        intro t ht
        have h1 := hlt t ht
        rcases List.mem_cons.1 ht with rfl | ht
        · exact ha
        · have := hp.1 t ht; omega
      rw [List.filter_eq_nil_iff.2 (fun t ht => by have := hall t ht; simp; omega), List.filter_eq_self.2 (fun t ht => by have := hall t ht; simpa using this), List.nil_append]
theorem buckets (p : Tr → Bool) : ∀ (n : Nat) (cs : List Tr), cs.Pairwise (fun a b => a.f5 ≤ b.f5) → (∀ t ∈ cs, 0 ≤ t.f5 ∧ t.f5 < (n : Int)) → cs = (List.range n).flatMap (fun i : Nat => cs.filter (fun t => t.f5 == (i : Int)))
  | 0, cs, _, h => by
    cases cs with
    | nil => rfl
    | cons a cs => have := h a List.mem_cons_self; omega
  | n + 1, cs, hp, h => by
    have h1 := split_last cs n hp (fun t ht => by have := (h t ht).2; omega)
    have hd : (cs.filter (fun t => decide (t.f5 < (n : Int)))).Pairwise (fun a b => a.f5 ≤ b.f5) := hp.filter _
    have ih := buckets p n _ hd (fun t ht => by
      have h2 := List.mem_filter.1 ht
      have h3 := (h t h2.1).1
      have h4 : t.f5 < (n : Int) := by simpa using h2.2
      exact ⟨h3, h4⟩)
    rw [List.range_succ, List.flatMap_append]
    have e : (List.range n).flatMap (fun i : Nat => (cs.filter (fun t => decide (t.f5 < (n : Int)))).filter (fun t => t.f5 == (i : Int))) = (List.range n).flatMap (fun i : Nat => cs.filter (fun t => t.f5 == (i : Int))) := by
      rw [List.flatMap_def, List.flatMap_def]
      congr 1
      apply List.map_congr_left
      intro i hi
      rw [List.filter_filter]
      apply List.filter_congr
      intro t _
      have hi' : i < n := by simpa using hi
      by_cases ht : t.f5 = (i : Int)
      · simp [ht]; omega
      · simp [ht]
    rw [e] at ih
    rw [← ih]
    simpa using h1

theorem short_perm {α : Type} {a b : List α} (h : a.Perm b) (hl : a.length ≤ 1) : a = b := by
  match a, hl with
  | [], _ => exact (List.nil_perm.1 h).symm
  | [x], _ => exact (List.singleton_perm.1 h).symm ▸ rfl
theorem short_of {p : Tr → Prop} : ∀ {l : List Tr}, l.Pairwise (fun a b => ¬ (p a ∧ p b)) → (∀ t ∈ l, p t) → l.length ≤ 1
  | [], _, _ => Nat.zero_le _
  | [a], _, _ => Nat.le_refl _
  | a :: b :: l, h, hp => by
    rw [List.pairwise_cons] at h
    exact absurd ⟨hp a (by simp), hp b (by simp)⟩ (h.1 b (by simp))

theorem commits_eq {l : List Ev} {cs : List Tr} (hr : rightM l = true) (h : CommitsOf l cs) : cs = rcommits l := by
  have hE := ends_of_right hr
  have hin : ∀ t ∈ cs, t ∈ triesM l ∧ t.f7 = true := fun t ht => by
    have := h.perm.mem_iff.1 ht
    unfold ended at this
    exact List.mem_filter.1 this
  rw [buckets (fun _ => true) l.length cs h.rise (fun t ht => ⟨hE.com t (hin t ht).1 (hin t ht).2, hE.lt t (hin t ht).1⟩)]
  unfold rcommits rcommitsUpTo
  rw [rtries_of_right hr, List.flatMap_def, List.flatMap_def]
  congr 1
  apply List.map_congr_left
  intro i hi
  have hp : (cs.filter (fun t => t.f5 == (i : Int))).Perm ((triesM l).filter (fun t => t.f7 && t.f5 == (i : Int))) := by
    have h1 := h.perm.filter (fun t => t.f5 == (i : Int))
    unfold ended at h1
    rw [List.filter_filter] at h1
    have e : (triesM l).filter (fun t => (t.f5 == (i : Int)) && t.f7) = (triesM l).filter (fun t => t.f7 && t.f5 == (i : Int)) := List.filter_congr (fun t _ => Bool.and_comm _ _)
    rw [e] at h1
    exact h1
  refine (short_perm hp.symm ?_).symm
  refine short_of (p := fun t => t.f5 = (i : Int)) ?_ (fun t ht => by
    have := (List.mem_filter.1 ht).2
    simp only [Bool.and_eq_true, beq_iff_eq] at this
    exact this.2)
  refine List.Pairwise.filter _ ?_
  rw [List.pairwise_iff_getElem]
  intro a b ha hb hab hh
  have := hE.one a b _ _ (List.getElem?_eq_getElem ha) (List.getElem?_eq_getElem hb) (by rw [hh.1]; omega) (by rw [hh.1, hh.2])
  omega
end Go.Proofs.Ytjmnbbflahacoaa.Hist
/- Are a try and the document's alike? The law's 'same' and 'alike', where they are. No condition. -/
namespace Go.Proofs.Ytjmnbbflahacoaa.Hist
open Go.RowKit Go.Proofs.Ytjmnbbflahacoaa.Mem Go.Proofs.Ytjmnbbflahacoaa.PHistTells Go.Proofs.YtjmnbbflahacoaaW.PrintWords
set_option linter.unusedVariables false
set_option linter.unusedSimpArgs false

theorem acc_at {w : World} {A : Option Addr} {l : List Acc} (h : kAcc.C w A l.length l) (k : Nat) (hk : k < l.length) :
    ∃ ad, A = some ad ∧ w.cell? (ad.add (k * 6)) = some (.int .i64 l[k].f0) ∧ w.cell? ⟨(ad.add (k * 6)).block, (ad.add (k * 6)).off + 1, none⟩ = some (.int .i64 l[k].f1) ∧ w.cell? ⟨(ad.add (k * 6)).block, (ad.add (k * 6)).off + 2, none⟩ = some (.int .i64 l[k].f2) ∧
      w.cell? ⟨(ad.add (k * 6)).block, (ad.add (k * 6)).off + 3, none⟩ = some (.int .i64 l[k].f3) ∧ w.cell? ⟨(ad.add (k * 6)).block, (ad.add (k * 6)).off + 4, none⟩ = some (.bool l[k].f4) ∧ w.cell? ⟨(ad.add (k * 6)).block, (ad.add (k * 6)).off + 5, none⟩ = some (.bool l[k].f5) := by
  obtain ⟨ad, rfl, h0, h1, h2, h3, h4, h5⟩ := at_T33 h (k : Int) (by omega) (by omega)
  have hx : rd_T33 l (k : Int) = l[k] := by unfold rd_T33; simp [List.getD, hk]
  simp only [Int.toNat_natCast, hx] at h0 h1 h2 h3 h4 h5
  exact ⟨ad, rfl, h0, h1, h2, h3, h4, h5⟩
end Go.Proofs.Ytjmnbbflahacoaa.Hist
