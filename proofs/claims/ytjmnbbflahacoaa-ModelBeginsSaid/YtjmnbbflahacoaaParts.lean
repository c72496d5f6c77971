/- hist, plain: a right trace's tries, transaction by transaction. No condition. -/
import Derived.Test.YtjmnbbflahacoaaPlaces
namespace Go.Proofs.Ytjmnbbflahacoaa.Hist
open Go.RowKit Go.Proofs.Ytjmnbbflahacoaa.Mem Go.Proofs.Ytjmnbbflahacoaa.PHistTells
set_option linter.unusedVariables false
set_option linter.unusedSimpArgs false

/-- What an event of a try leaves of it. -/
theorem turnTr_keeps {t t' : Tr} {i : Int} {e : Ev} (h : turnTr t i e = some t') : t'.f0 = t.f0 ∧ t'.f1 = t.f1 ∧ t'.f2 = t.f2 ∧ t'.f3 = t.f3 ∧ t'.f4 = t.f4 := by
  unfold turnTr at h
  split at h
  · injection h with h; subst h; exact ⟨rfl, rfl, rfl, rfl, rfl⟩
  split at h
  · injection h with h; subst h; exact ⟨rfl, rfl, rfl, rfl, rfl⟩
  split at h
  · injection h with h; subst h; exact ⟨rfl, rfl, rfl, rfl, rfl⟩
  split at h
  · injection h with h; subst h; exact ⟨rfl, rfl, rfl, rfl, rfl⟩
  · cases h

def proj (t : Tr) : Int × Int × Int × Int := (t.f0, t.f1, t.f2, t.f4)
def isOf (th tx : Int) (p : Int × Int × Int × Int) : Bool := p.1 == th && p.2.1 == tx
structure PartGood (n : Nat) (ps : List (Int × Int × Int × Int)) : Prop where
  nums : ∀ (th tx : Int) (m : Nat) (p : Int × Int × Int × Int), (ps.filter (isOf th tx))[m]? = some p → p.2.2.1 = (m : Int) + 1
  rise : ps.Pairwise (fun a b => a.2.2.2 < b.2.2.2)
  lt : ∀ p ∈ ps, p.2.2.2 < n
  ok : ∀ p ∈ ps, (Lit.int .i64 p.1).wf = true ∧ (Lit.int .i64 p.2.1).wf = true

theorem filter_proj (ts : List Tr) (th tx : Int) : (ts.map proj).filter (isOf th tx) = (ts.filter (fun t => t.f0 == th && t.f1 == tx)).map proj := by
  rw [List.filter_map]; rfl
theorem countOf_proj (ts : List Tr) (th tx : Int) : countOf th tx ts = ((ts.map proj).filter (isOf th tx)).length := by
  rw [filter_proj, List.length_map]
  unfold countOf
  rw [List.countP_eq_length_filter]

theorem step_parts {n : Nat} {ts ts' : List Tr} {e : Ev} (h : PartGood n (ts.map proj)) (he : EvOk e) (hs : stepM ts n e = some ts') : PartGood (n + 1) (ts'.map proj) := by
  have hnext : PartGood (n + 1) (ts.map proj) := ⟨h.nums, h.rise, fun p hp => by have := h.lt p hp; omega, h.ok⟩
  unfold stepM at hs
  split at hs
  · rename_i h1
    split at hs
    · cases hs
    · rename_i hc
      injection hs with hs
      subst hs
      have hat : e.f3 = (countOf e.f1 e.f2 ts : Int) + 1 := by
        simp only [Bool.or_eq_true, Bool.not_eq_true', not_or, Bool.not_eq_true, Bool.not_eq_false] at hc
        simpa using hc.2
      rw [List.map_append, List.map_cons, List.map_nil]
      refine ⟨fun th tx m p hp => ?_, ?_, fun p hp => ?_, fun p hp => ?_⟩
      · rw [List.filter_append] at hp
        rcases Nat.lt_or_ge m ((ts.map proj).filter (isOf th tx)).length with hlt | hge
        · rw [List.getElem?_append_left hlt] at hp
          exact h.nums th tx m p hp
        · rw [List.getElem?_append_right hge] at hp
          by_cases hq : isOf th tx (proj (newTr n e)) = true
          · rw [List.filter_cons_of_pos hq, List.filter_nil] at hp
            have hm : m - ((ts.map proj).filter (isOf th tx)).length = 0 := by
              have := (List.getElem?_eq_some_iff.1 hp).1
              simp at this
              omega
            rw [hm] at hp
            simp only [List.getElem?_cons_zero, Option.some.injEq] at hp
            subst hp
            have hk : e.f1 = th ∧ e.f2 = tx := by simpa [isOf, proj, newTr] using hq
            obtain ⟨rfl, rfl⟩ := hk
            have := countOf_proj ts e.f1 e.f2
            show e.f3 = _
            rw [hat]
            omega
          · rw [List.filter_cons_of_neg hq, List.filter_nil] at hp
            simp at hp
      · rw [List.pairwise_append]
        exact ⟨h.rise, by simp, fun a ha b hb => by
          rw [List.mem_singleton.1 hb]
          exact h.lt a ha⟩
      · rw [List.mem_append, List.mem_singleton] at hp
        rcases hp with hp | rfl
        · exact hnext.lt p hp
        · show (n : Int) < ((n + 1 : Nat) : Int); omega
      · rw [List.mem_append, List.mem_singleton] at hp
        rcases hp with hp | rfl
        · exact h.ok p hp
        · exact ⟨he.w1, he.w2⟩
  split at hs
  · split at hs
    · cases hs
    · injection hs with hs
      subst hs
      exact hnext
  split at hs
  · rename_i k hk
    split at hs
    · rename_i t ht
      split at hs
      · rw [Option.map_eq_some_iff] at hs
        obtain ⟨t', h1, h2⟩ := hs
        subst h2
        obtain ⟨k0, k1, k2, _, k4⟩ := turnTr_keeps h1
        rw [map_set_same proj ts k t t' ht (by unfold proj; rw [k0, k1, k2, k4])]
        exact hnext
      · cases hs
    · cases hs
  · cases hs

theorem readFrom_parts : ∀ (l : List Ev) (n : Nat) (ts ts' : List Tr), (∀ e ∈ l, EvOk e) → PartGood n (ts.map proj) → readFrom ts n l = some ts' → PartGood (n + l.length) (ts'.map proj)
  | [], n, ts, ts', _, h, hr => by
    injection hr with hr
    subst hr
    exact h
  | e :: l, n, ts, ts', hok, h, hr => by
    unfold readFrom at hr
    rw [Option.bind_eq_some_iff] at hr
    obtain ⟨t1, h1, h2⟩ := hr
    have := readFrom_parts l (n + 1) t1 ts' (fun e he => hok e (List.mem_cons_of_mem _ he)) (step_parts h (hok e List.mem_cons_self) h1) h2
    rw [List.length_cons, show n + (l.length + 1) = n + 1 + l.length by omega]
    exact this
theorem triesM_parts {l : List Ev} (hok : ∀ e ∈ l, EvOk e) : PartGood l.length ((triesM l).map proj) := by
  have h0 : PartGood 0 (([] : List Tr).map proj) := ⟨fun _ _ _ _ h => by simp at h, List.Pairwise.nil, fun _ h => by simp at h, fun _ h => by simp at h⟩
  unfold triesM
  cases h : readM l with
  | none => exact ⟨fun _ _ _ _ h => by simp at h, List.Pairwise.nil, fun _ h => by simp at h, fun _ h => by simp at h⟩
  | some ts =>
    have := readFrom_parts l 0 [] ts hok h0 h
    simpa using this

/-- A transaction's tries: numbered, and rising. -/
theorem ofM_num {l : List Ev} (hok : ∀ e ∈ l, EvOk e) {th tx : Int} {m : Nat} {t : Tr} (h : (ofM l th tx)[m]? = some t) : t.f0 = th ∧ t.f1 = tx ∧ t.f2 = (m : Int) + 1 := by
  have h1 := (triesM_parts hok).nums th tx m (proj t) (by rw [filter_proj, List.getElem?_map]; show ((ofM l th tx)[m]?).map proj = _; rw [h]; rfl)
  have h2 := (List.mem_filter.1 (List.mem_of_getElem? h)).2
  simp only [Bool.and_eq_true, beq_iff_eq] at h2
  exact ⟨h2.1, h2.2, h1⟩
theorem ofM_rise {l : List Ev} (hok : ∀ e ∈ l, EvOk e) (th tx : Int) : (ofM l th tx).Pairwise (fun a b => a.f4 < b.f4) := by
  have h := (triesM_parts hok).rise
  rw [List.pairwise_map] at h
  exact h.filter _
theorem triesM_ok {l : List Ev} (hok : ∀ e ∈ l, EvOk e) {t : Tr} (ht : t ∈ triesM l) : (Lit.int .i64 t.f0).wf = true ∧ (Lit.int .i64 t.f1).wf = true :=
  (triesM_parts hok).ok (proj t) (List.mem_map_of_mem ht)

/-- How many tries are of transactions that the first i are of. -/
def keysOf (ts : List Tr) (i : Nat) : List (Int × Int) := (ts.take i).map (fun t => (t.f0, t.f1))
def inKeys (ks : List (Int × Int)) (t : Tr) : Bool := ks.contains (t.f0, t.f1)
def partsCnt (ts : List Tr) (i : Nat) : Nat := ts.countP (inKeys (keysOf ts i))
theorem keysOf_next {ts : List Tr} {i : Nat} {t : Tr} (h : ts[i]? = some t) : keysOf ts (i + 1) = keysOf ts i ++ [(t.f0, t.f1)] := by
  obtain ⟨h1, h2⟩ := List.getElem?_eq_some_iff.1 h
  unfold keysOf
  rw [List.take_succ_eq_append_getElem h1, List.map_append, h2]; rfl
theorem partsCnt_seen {ts : List Tr} {i : Nat} {t : Tr} (h : ts[i]? = some t) (hs : (keysOf ts i).contains (t.f0, t.f1) = true) : partsCnt ts (i + 1) = partsCnt ts i := by
  unfold partsCnt
  apply List.countP_congr
  intro u _
  unfold inKeys
  rw [keysOf_next h]
  simp only [List.contains_iff_mem, List.mem_append, List.mem_singleton] at hs ⊢
  constructor
  · rintro (h | h)
    · exact h
    · rw [h]; exact hs
  · exact .inl
theorem countP_or {α : Type} (p q : α → Bool) : ∀ l : List α, (∀ x ∈ l, ¬ (p x = true ∧ q x = true)) → l.countP (fun x => p x || q x) = l.countP p + l.countP q
  | [], _ => rfl
  | x :: l, h => by
    have h1 := h x List.mem_cons_self
    have h2 := countP_or p q l (fun y hy => h y (List.mem_cons_of_mem _ hy))
    rw [List.countP_cons, List.countP_cons, List.countP_cons, h2]
    cases hp : p x <;> cases hq : q x <;> simp_all <;> omega
theorem partsCnt_new {l : List Ev} {i : Nat} {t : Tr} (h : (triesM l)[i]? = some t) (hs : (keysOf (triesM l) i).contains (t.f0, t.f1) = false) : partsCnt (triesM l) (i + 1) = partsCnt (triesM l) i + (ofM l t.f0 t.f1).length := by
  unfold partsCnt ofM
  rw [← List.countP_eq_length_filter, ← countP_or]
  · apply List.countP_congr
    intro u _
    unfold inKeys
    rw [keysOf_next h]
    simp only [List.contains_iff_mem, List.mem_append, List.mem_singleton, Bool.or_eq_true, Bool.and_eq_true, beq_iff_eq, Prod.mk.injEq]
  · rintro u _ ⟨h1, h2⟩
    simp only [Bool.and_eq_true, beq_iff_eq] at h2
    unfold inKeys at h1
    rw [h2.1, h2.2, hs] at h1
    cases h1
theorem partsCnt_all (ts : List Tr) : partsCnt ts ts.length = ts.length := by
  unfold partsCnt
  rw [List.countP_eq_length]
  intro t ht
  unfold inKeys keysOf
  rw [List.take_length]
  simp only [List.contains_iff_mem]
  exact List.mem_map_of_mem ht
theorem partsCnt_le (ts : List Tr) (i : Nat) : partsCnt ts i ≤ ts.length := List.countP_le_length
theorem partsCnt_zero (ts : List Tr) : partsCnt ts 0 = 0 := by
  unfold partsCnt
  rw [List.countP_eq_zero]
  intro t _
  simp [inKeys, keysOf]
end Go.Proofs.Ytjmnbbflahacoaa.Hist
