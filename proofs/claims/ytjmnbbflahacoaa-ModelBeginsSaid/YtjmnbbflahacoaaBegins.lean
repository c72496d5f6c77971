/- hist, plain: a beginning of a right trace; how many committed. No condition. -/
import Derived.Test.YtjmnbbflahacoaaParts
namespace Go.Proofs.Ytjmnbbflahacoaa.Hist
open Go.RowKit Go.Proofs.Ytjmnbbflahacoaa.Mem Go.Proofs.Ytjmnbbflahacoaa.PHistTells
set_option linter.unusedVariables false
set_option linter.unusedSimpArgs false

theorem readFrom_append : ∀ (a b : List Ev) (ts : List Tr) (i : Nat), readFrom ts i (a ++ b) = (readFrom ts i a).bind fun ts' => readFrom ts' (i + a.length) b
  | [], b, ts, i => rfl
  | e :: a, b, ts, i => by
    rw [List.cons_append]
    show ((stepM ts i e).bind fun ts' => readFrom ts' (i + 1) (a ++ b)) = ((stepM ts i e).bind fun ts' => readFrom ts' (i + 1) a).bind fun ts' => readFrom ts' (i + (e :: a).length) b
    cases h : stepM ts i e with
    | none => rfl
    | some t1 =>
      simp only [Option.bind_some]
      rw [readFrom_append a b t1 (i + 1), List.length_cons, show i + 1 + a.length = i + (a.length + 1) by omega]

/-- Tries, later. -/
structure TryLater (t t' : Tr) : Prop where
  begins : t'.f4 = t.f4
  ends : 0 ≤ t.f5 → t'.f5 = t.f5
  accs : t.f8.length ≤ t'.f8.length
theorem TryLater.refl (t : Tr) : TryLater t t := ⟨rfl, fun _ => rfl, Nat.le_refl _⟩
theorem TryLater.trans {a b c : Tr} (h : TryLater a b) (k : TryLater b c) : TryLater a c :=
  ⟨k.begins.trans h.begins, fun h0 => (k.ends (by rw [h.ends h0]; exact h0)).trans (h.ends h0), Nat.le_trans h.accs k.accs⟩
structure Later (ts ts' : List Tr) : Prop where
  len : ts.length ≤ ts'.length
  each : ∀ (i : Nat) (t : Tr), ts[i]? = some t → ∃ t', ts'[i]? = some t' ∧ TryLater t t'
theorem Later.refl (ts : List Tr) : Later ts ts := ⟨Nat.le_refl _, fun i t h => ⟨t, h, TryLater.refl t⟩⟩
theorem Later.trans {a b c : List Tr} (h : Later a b) (k : Later b c) : Later a c :=
  ⟨Nat.le_trans h.len k.len, fun i t ht => by
    obtain ⟨t1, h1, l1⟩ := h.each i t ht
    obtain ⟨t2, h2, l2⟩ := k.each i t1 h1
    exact ⟨t2, h2, l1.trans l2⟩⟩
theorem turn_later {t t' : Tr} {i : Int} {e : Ev} (ho : t.f5 < 0) (h : turnTr t i e = some t') : TryLater t t' := by
  unfold turnTr at h
  split at h
  · injection h with h; subst h; exact ⟨rfl, fun _ => rfl, by simp [withAcc]⟩
  split at h
  · injection h with h; subst h; exact ⟨rfl, fun _ => rfl, by simp [withAcc]⟩
  split at h
  · injection h with h; subst h; exact ⟨rfl, fun h0 => by omega, Nat.le_refl _⟩
  split at h
  · injection h with h; subst h; exact ⟨rfl, fun h0 => by omega, Nat.le_refl _⟩
  · cases h
theorem step_later {ts ts' : List Tr} {i : Int} {e : Ev} (h : stepM ts i e = some ts') : Later ts ts' := by
  unfold stepM at h
  split at h
  · split at h
    · cases h
    · injection h with h
      subst h
      refine ⟨by simp, fun j t ht => ⟨t, ?_, TryLater.refl t⟩⟩
      rw [List.getElem?_append_left (List.getElem?_eq_some_iff.1 ht).1]
      exact ht
  split at h
  · split at h
    · cases h
    · injection h with h
      subst h
      exact Later.refl _
  split at h
  · rename_i k hk
    split at h
    · rename_i t ht
      split at h
      · rename_i hc
        rw [Option.map_eq_some_iff] at h
        obtain ⟨t', h1, h2⟩ := h
        subst h2
        simp only [Bool.and_eq_true, decide_eq_true_eq] at hc
        refine ⟨by simp, fun j u hu => ?_⟩
        by_cases e1 : k = j
        · subst e1
          rw [ht] at hu
          injection hu with hu
          subst hu
          exact ⟨t', by rw [List.getElem?_set_self (List.getElem?_eq_some_iff.1 ht).1], turn_later hc.1.1 h1⟩
        · exact ⟨u, by rw [List.getElem?_set_ne e1]; exact hu, TryLater.refl u⟩
      · cases h
    · cases h
  · cases h
theorem readFrom_later : ∀ (l : List Ev) (ts ts' : List Tr) (i : Nat), readFrom ts i l = some ts' → Later ts ts'
  | [], ts, ts', i, h => by
    injection h with h
    subst h
    exact Later.refl _
  | e :: l, ts, ts', i, h => by
    unfold readFrom at h
    rw [Option.bind_eq_some_iff] at h
    obtain ⟨t1, h1, h2⟩ := h
    exact (step_later h1).trans (readFrom_later l t1 ts' (i + 1) h2)
/-- A beginning of a right trace. -/
theorem begins_right {l : List Ev} (n : Nat) (h : rightM l = true) : rightM (l.take n) = true ∧ Later (triesM (l.take n)) (triesM l) := by
  unfold rightM triesM readM at *
  have h1 := readFrom_append (l.take n) (l.drop n) [] 0
  rw [List.take_append_drop] at h1
  cases hb : readFrom [] 0 (l.take n) with
  | none =>
    rw [hb] at h1
    rw [h1] at h
    cases h
  | some ts =>
    rw [hb] at h1
    simp only [Option.bind_some] at h1
    cases hl : readFrom ts (0 + (l.take n).length) (l.drop n) with
    | none =>
      rw [hl] at h1
      rw [h1] at h
      cases h
    | some ts' =>
      rw [hl] at h1
      rw [h1]
      exact ⟨rfl, readFrom_later _ _ _ _ hl⟩

/-- How many committed: a commit each. -/
theorem countP_set {α : Type} (p : α → Bool) : ∀ (l : List α) (k : Nat) (x y : α), l[k]? = some x → (l.set k y).countP p + (if p x then 1 else 0) = l.countP p + (if p y then 1 else 0)
  | [], k, x, y, h => by simp at h
  | a :: l, 0, x, y, h => by
    simp only [List.getElem?_cons_zero, Option.some.injEq] at h
    subst h
    simp only [List.set_cons_zero, List.countP_cons]; omega
  | a :: l, k + 1, x, y, h => by
    rw [List.getElem?_cons_succ] at h
    have := countP_set p l k x y h
    simp only [List.set_cons_succ, List.countP_cons]; omega
theorem turn_committed {t t' : Tr} {i : Int} {e : Ev} (ho : t.f7 = false) (h : turnTr t i e = some t') : t'.f7 = (e.f0 == 5) := by
  unfold turnTr at h
  split at h
  · rename_i hk
    injection h with h; subst h
    show t.f7 = _
    rw [ho]
    rcases Bool.or_eq_true _ _ ▸ hk with hk | hk <;> (rw [beq_iff_eq.1 hk]; rfl)
  split at h
  · rename_i hk
    injection h with h; subst h
    show t.f7 = _
    rw [ho, beq_iff_eq.1 hk]; rfl
  split at h
  · rename_i hk
    injection h with h; subst h
    exact hk.symm
  split at h
  · rename_i hk
    injection h with h; subst h
    show t.f7 = _
    rw [ho, beq_iff_eq.1 hk]; rfl
  · cases h
theorem step_committed {l : List Ev} {n : Nat} {ts ts' : List Tr} {e : Ev} (h : ∀ t ∈ ts, TryGood l n t) (hs : stepM ts n e = some ts') : ts'.countP (fun t => t.f7) = ts.countP (fun t => t.f7) + (if e.f0 == 5 then 1 else 0) := by
  unfold stepM at hs
  split at hs
  · rename_i h1
    split at hs
    · cases hs
    · injection hs with hs
      subst hs
      rw [List.countP_append, List.countP_singleton, beq_iff_eq.1 h1]; rfl
  split at hs
  · rename_i h7
    split at hs
    · cases hs
    · injection hs with hs
      subst hs
      rw [beq_iff_eq.1 h7]; rfl
  split at hs
  · rename_i k hk
    split at hs
    · rename_i t ht
      split at hs
      · rename_i hc
        rw [Option.map_eq_some_iff] at hs
        obtain ⟨t', h1, h2⟩ := hs
        subst h2
        simp only [Bool.and_eq_true, decide_eq_true_eq] at hc
        have ho := ((h t (List.mem_of_getElem? ht)).op hc.1.1).2.1
        have h3 := countP_set (fun t : Tr => t.f7) ts k t t' ht
        simp only [ho, turn_committed ho h1] at h3
        simpa using h3
      · cases hs
    · cases hs
  · cases hs
theorem readFrom_committed (l : List Ev) : ∀ (m n : Nat) (ts ts' : List Tr), n + m = l.length → (∀ t ∈ ts, TryGood l n t) → readFrom ts n (l.drop n) = some ts' → ts'.countP (fun t => t.f7) = ts.countP (fun t => t.f7) + (l.drop n).countP (fun e => e.f0 == 5)
  | 0, n, ts, ts', hn, h, hr => by
    have hd : l.drop n = [] := List.drop_eq_nil_iff.2 (by omega)
    rw [hd] at hr ⊢
    injection hr with hr
    subst hr
    rfl
  | m + 1, n, ts, ts', hn, h, hr => by
    have hlt : n < l.length := by omega
    rw [List.drop_eq_getElem_cons hlt] at hr ⊢
    unfold readFrom at hr
    rw [Option.bind_eq_some_iff] at hr
    obtain ⟨t1, h1, h2⟩ := hr
    obtain ⟨g1, _⟩ := step_good h (List.getElem?_eq_getElem hlt) h1
    have g3 := readFrom_committed l m (n + 1) t1 ts' (by omega) g1 h2
    rw [g3, step_committed h h1, List.countP_cons]
    omega
theorem committed_count {l : List Ev} (h : rightM l = true) : ((triesM l).filter (fun t => t.f7)).length = beforeM l l.length := by
  rw [← List.countP_eq_length_filter]
  unfold beforeM
  rw [Int.toNat_natCast, List.take_length]
  unfold rightM triesM readM at *
  cases hr : readFrom [] 0 l with
  | none => rw [hr] at h; cases h
  | some ts =>
    have := readFrom_committed l l.length 0 [] ts (by omega) (by simp) hr
    simpa using this
end Go.Proofs.Ytjmnbbflahacoaa.Hist
