/- hist, plain: what holds of a right trace's tries: places, ends, accesses. No condition. -/
import Derived.Test.YtjmnbbflahacoaaHistY
namespace Go.Proofs.Ytjmnbbflahacoaa.Hist
open Go.RowKit Go.Proofs.Ytjmnbbflahacoaa.Mem Go.Proofs.Ytjmnbbflahacoaa.PHistTells
set_option linter.unusedVariables false
set_option linter.unusedSimpArgs false

/-- An access is what stands at its place. -/
structure AccGood (l : List Ev) (n : Nat) (t : Tr) (a : Acc) : Prop where
  after : t.f4 < a.f0
  lt : a.f0 < n
  ahead : 0 ≤ t.f5 → a.f0 < t.f5
  ev : ∃ x, l[a.f0.toNat]? = some x ∧ x.f0 = a.f1 ∧ x.f4 = a.f2 ∧ x.f5 = a.f3 ∧ x.f1 = t.f0
  kind : a.f1 = 2 ∨ a.f1 = 3
/-- A try of a trace's first n events. -/
structure TryGood (l : List Ev) (n : Nat) (t : Tr) : Prop where
  b0 : 0 ≤ t.f4
  b1 : t.f4 < n
  bk : ∃ x, l[t.f4.toNat]? = some x ∧ x.f0 = 1
  e1 : t.f5 < n
  ek : 0 ≤ t.f5 → ∃ x, l[t.f5.toNat]? = some x ∧ t.f7 = (x.f0 == 5)
  acc : ∀ a ∈ t.f8, AccGood l n t a
  rise : t.f8.Pairwise (fun a b => a.f0 < b.f0)
  op : t.f5 < 0 → t.f5 = -1 ∧ t.f7 = false ∧ t.f6 = 0

theorem TryGood.next {l : List Ev} {n : Nat} {t : Tr} (h : TryGood l n t) : TryGood l (n + 1) t :=
  ⟨h.b0, by have := h.b1; omega, h.bk, by have := h.e1; omega, h.ek, fun a ha => by have := h.acc a ha; exact ⟨this.after, by have := this.lt; omega, this.ahead, this.ev, this.kind⟩, h.rise, h.op⟩

def totalAcc (ts : List Tr) : Nat := (ts.map (·.f8.length)).sum
theorem sum_set : ∀ (l : List Nat) (k x y : Nat), l[k]? = some x → (l.set k y).sum + x = l.sum + y
  | [], k, x, y, h => by simp at h
  | a :: l, 0, x, y, h => by
    simp only [List.getElem?_cons_zero, Option.some.injEq] at h
    subst h
    simp only [List.set_cons_zero, List.sum_cons]; omega
  | a :: l, k + 1, x, y, h => by
    rw [List.getElem?_cons_succ] at h
    have := sum_set l k x y h
    simp only [List.set_cons_succ, List.sum_cons]; omega
theorem totalAcc_set {ts : List Tr} {k : Nat} {t t' : Tr} (h : ts[k]? = some t) : totalAcc (ts.set k t') + t.f8.length = totalAcc ts + t'.f8.length := by
  unfold totalAcc
  rw [List.map_set]
  exact sum_set _ k _ _ (by rw [List.getElem?_map, h]; rfl)
def isRW (e : Ev) : Bool := e.f0 == 2 || e.f0 == 3

theorem isRW_no {e : Ev} (h : ¬ (e.f0 == 2 || e.f0 == 3) = true) : isRW e = false := by unfold isRW; cases hh : (e.f0 == 2 || e.f0 == 3); rfl; exact absurd hh h
theorem relAcc_keeps (obj : Int) (a : Acc) : (relAcc obj a).f0 = a.f0 ∧ (relAcc obj a).f1 = a.f1 ∧ (relAcc obj a).f2 = a.f2 ∧ (relAcc obj a).f3 = a.f3 := by
  unfold relAcc; split <;> exact ⟨rfl, rfl, rfl, rfl⟩

theorem turn_good {l : List Ev} {n : Nat} {t t' : Tr} {e : Ev} (h : TryGood l n t) (ho : t.f5 < 0) (hth : t.f0 = e.f1) (he : l[n]? = some e) (ht : turnTr t n e = some t') : TryGood l (n + 1) t' ∧ t'.f8.length = t.f8.length + (if isRW e then 1 else 0) := by
  unfold turnTr at ht
  split at ht
  · rename_i hk
    injection ht with ht
    subst ht
    have hn := h.next
    refine ⟨⟨hn.b0, hn.b1, hn.bk, hn.e1, hn.ek, fun a ha => ?_, ?_, hn.op⟩, by simp [withAcc, isRW, hk]⟩
    · simp only [withAcc, List.mem_append, List.mem_singleton] at ha
      rcases ha with ha | rfl
      · have := hn.acc a ha
        exact ⟨this.after, this.lt, this.ahead, this.ev, this.kind⟩
      · refine ⟨?_, ?_, fun h0 => ?_, ⟨e, ?_, rfl, rfl, rfl, hth.symm⟩, ?_⟩
        · have := h.b1; exact this
        · show (n : Int) < ((n + 1 : Nat) : Int); omega
        · have : 0 ≤ t.f5 := h0; omega
        · show l[(n : Int).toNat]? = some e
          rw [Int.toNat_natCast]; exact he
        · show e.f0 = 2 ∨ e.f0 = 3
          simpa using hk
    · show (t.f8 ++ [accOf t n e]).Pairwise _
      rw [List.pairwise_append]
      exact ⟨h.rise, by simp, fun a ha b hb => by
        rw [List.mem_singleton.1 hb]
        exact (h.acc a ha).lt⟩
  split at ht
  · rename_i hk0 hk
    injection ht with ht
    subst ht
    have hn := h.next
    refine ⟨⟨hn.b0, hn.b1, hn.bk, hn.e1, hn.ek, fun a ha => ?_, ?_, hn.op⟩, ?_⟩
    · simp only [withAcc, List.mem_map] at ha
      obtain ⟨a', ha', rfl⟩ := ha
      have := hn.acc a' ha'
      obtain ⟨r0, r1, r2, r3⟩ := relAcc_keeps e.f4 a'
      exact ⟨by rw [r0]; exact this.after, by rw [r0]; exact this.lt, by rw [r0]; exact this.ahead, by rw [r0, r1, r2, r3]; exact this.ev, by rw [r1]; exact this.kind⟩
    · show (t.f8.map (relAcc e.f4)).Pairwise _
      rw [List.pairwise_map]
      exact h.rise.imp (fun {a b} hab => by rw [(relAcc_keeps e.f4 a).1, (relAcc_keeps e.f4 b).1]; exact hab)
    · rw [isRW_no hk0]; simp [withAcc]
  split at ht
  · rename_i hk0 _ hk
    injection ht with ht
    subst ht
    refine ⟨⟨h.b0, by have := h.b1; show t.f4 < _; omega, h.bk, by show (n : Int) < _; omega, fun _ => ⟨e, by show l[(n : Int).toNat]? = _; rw [Int.toNat_natCast]; exact he, by rw [hk]⟩, fun a ha => ?_, h.rise, fun hh => by have : (n : Int) < 0 := hh; omega⟩, by rw [isRW_no hk0]; rfl⟩
    have := h.acc a ha
    exact ⟨this.after, by have := this.lt; omega, fun _ => this.lt, this.ev, this.kind⟩
  split at ht
  · rename_i hk0 _ hk5 hk
    injection ht with ht
    subst ht
    refine ⟨⟨h.b0, by have := h.b1; show t.f4 < _; omega, h.bk, by show (n : Int) < _; omega, fun _ => ⟨e, by show l[(n : Int).toNat]? = _; rw [Int.toNat_natCast]; exact he, ?_⟩, fun a ha => ?_, h.rise, fun hh => by have : (n : Int) < 0 := hh; omega⟩, by rw [isRW_no hk0]; rfl⟩
    · show t.f7 = _
      rw [(h.op ho).2.1]
      simp only [Bool.not_eq_true] at hk5
      exact hk5.symm
    · have := h.acc a ha
      exact ⟨this.after, by have := this.lt; omega, fun _ => this.lt, this.ev, this.kind⟩
  · cases ht

theorem totalAcc_append (a b : List Tr) : totalAcc (a ++ b) = totalAcc a + totalAcc b := by unfold totalAcc; rw [List.map_append, List.sum_append]
theorem step_good {l : List Ev} {n : Nat} {ts ts' : List Tr} {e : Ev} (h : ∀ t ∈ ts, TryGood l n t) (he : l[n]? = some e) (hs : stepM ts n e = some ts') : (∀ t ∈ ts', TryGood l (n + 1) t) ∧ totalAcc ts' = totalAcc ts + (if isRW e then 1 else 0) := by
  unfold stepM at hs
  split at hs
  · rename_i h1
    have hrw : isRW e = false := by unfold isRW; rw [beq_iff_eq.1 h1]; rfl
    split at hs
    · cases hs
    · injection hs with hs
      subst hs
      refine ⟨fun t ht => ?_, by rw [totalAcc_append, hrw]; rfl⟩
      simp only [List.mem_append, List.mem_singleton] at ht
      rcases ht with ht | rfl
      · exact (h t ht).next
      · refine ⟨?_, ?_, ⟨e, ?_, beq_iff_eq.1 h1⟩, ?_, fun h0 => ?_, fun a ha => ?_, ?_, fun _ => ⟨rfl, rfl, rfl⟩⟩
        · show (0 : Int) ≤ (n : Int); omega
        · show (n : Int) < ((n + 1 : Nat) : Int); omega
        · show l[(n : Int).toNat]? = some e; rw [Int.toNat_natCast]; exact he
        · show (-1 : Int) < ((n + 1 : Nat) : Int); omega
        · have : (0 : Int) ≤ -1 := h0; omega
        · simp [newTr] at ha
        · exact List.Pairwise.nil
  split at hs
  · rename_i h1 h7
    have hrw : isRW e = false := by unfold isRW; rw [beq_iff_eq.1 h7]; rfl
    split at hs
    · cases hs
    · injection hs with hs
      subst hs
      exact ⟨fun t ht => (h t ht).next, by rw [hrw]; rfl⟩
  split at hs
  · rename_i k hk
    split at hs
    · rename_i t ht
      split at hs
      · rename_i hc
        rw [Option.map_eq_some_iff] at hs
        obtain ⟨t', h1, h2⟩ := hs
        subst h2
        simp only [Bool.and_eq_true, decide_eq_true_eq, beq_iff_eq] at hc
        have hth : t.f0 = e.f1 := by
          have := (lastIx_spec e.f1 _ k hk).1
          rw [List.getElem?_map, ht] at this
          simpa using this
        obtain ⟨g1, g2⟩ := turn_good (h t (List.mem_of_getElem? ht)) hc.1.1 hth he h1
        refine ⟨fun u hu => ?_, ?_⟩
        · rcases List.mem_or_eq_of_mem_set hu with hu | rfl
          · exact (h u hu).next
          · exact g1
        · have := totalAcc_set (t' := t') ht
          omega
      · cases hs
    · cases hs
  · cases hs

theorem readFrom_good (l : List Ev) : ∀ (m n : Nat) (ts ts' : List Tr), n + m = l.length → (∀ t ∈ ts, TryGood l n t) → readFrom ts n (l.drop n) = some ts' → (∀ t ∈ ts', TryGood l l.length t) ∧ totalAcc ts' = totalAcc ts + (l.drop n).countP isRW
  | 0, n, ts, ts', hn, h, hr => by
    have hd : l.drop n = [] := List.drop_eq_nil_iff.2 (by omega)
    rw [hd] at hr ⊢
    injection hr with hr
    subst hr
    exact ⟨by rw [show l.length = n by omega]; exact h, rfl⟩
  | m + 1, n, ts, ts', hn, h, hr => by
    have hlt : n < l.length := by omega
    rw [List.drop_eq_getElem_cons hlt] at hr ⊢
    unfold readFrom at hr
    rw [Option.bind_eq_some_iff] at hr
    obtain ⟨t1, h1, h2⟩ := hr
    obtain ⟨g1, g2⟩ := step_good h (List.getElem?_eq_getElem hlt) h1
    obtain ⟨g3, g4⟩ := readFrom_good l m (n + 1) t1 ts' (by omega) g1 h2
    refine ⟨g3, ?_⟩
    rw [g4, g2, List.countP_cons]
    omega
theorem readM_good {l : List Ev} {ts : List Tr} (h : readM l = some ts) : (∀ t ∈ ts, TryGood l l.length t) ∧ totalAcc ts = l.countP isRW := by
  have := readFrom_good l l.length 0 [] ts (by omega) (by simp) h
  simpa [totalAcc] using this
theorem triesM_good (l : List Ev) : (∀ t ∈ triesM l, TryGood l l.length t) ∧ (rightM l = true → totalAcc (triesM l) = l.countP isRW) := by
  unfold triesM rightM
  cases h : readM l with
  | none => exact ⟨by simp, by simp⟩
  | some ts => exact ⟨(readM_good h).1, fun _ => (readM_good h).2⟩
end Go.Proofs.Ytjmnbbflahacoaa.Hist
/- hist, plain: a right trace's tries, transaction by transaction. No condition. -/
namespace Go.Proofs.Ytjmnbbflahacoaa.Hist
open Go.RowKit Go.Proofs.Ytjmnbbflahacoaa.Mem Go.Proofs.Ytjmnbbflahacoaa.PHistTells
set_option linter.unusedVariables false
set_option linter.unusedSimpArgs false

/-- What an event of a try leaves of it. -/
theorem turnTr_keeps {t t' : Tr} {i : Int} {e : Ev} (h : turnTr t i e = some t') : t'.f0 = t.f0 ∧ t'.f1 = t.f1 ∧ t'.f2 = t.f2 ∧ t'.f3 = t.f3 ∧ t'.f4 = t.f4 := by
  unfold turnTr at h
  split at h
  · injection h with h; subst h; exact ⟨rfl, rfl, rfl, rfl, rfl⟩
  split at h
  · injection h with h; subst h; exact ⟨rfl, rfl, rfl, rfl, rfl⟩
  split at h
  · injection h with h; subst h; exact ⟨rfl, rfl, rfl, rfl, rfl⟩
  split at h
  · injection h with h; subst h; exact ⟨rfl, rfl, rfl, rfl, rfl⟩
  · cases h

end Go.Proofs.Ytjmnbbflahacoaa.Hist
/- hist, plain: a beginning of a right trace; how many committed. No condition. -/
namespace Go.Proofs.Ytjmnbbflahacoaa.Hist
open Go.RowKit Go.Proofs.Ytjmnbbflahacoaa.Mem Go.Proofs.Ytjmnbbflahacoaa.PHistTells
set_option linter.unusedVariables false
set_option linter.unusedSimpArgs false

/-- Tries, later. -/
structure TryLater (t t' : Tr) : Prop where
  begins : t'.f4 = t.f4
  ends : 0 ≤ t.f5 → t'.f5 = t.f5
  accs : t.f8.length ≤ t'.f8.length
theorem TryLater.trans {a b c : Tr} (h : TryLater a b) (k : TryLater b c) : TryLater a c :=
  ⟨k.begins.trans h.begins, fun h0 => (k.ends (by rw [h.ends h0]; exact h0)).trans (h.ends h0), Nat.le_trans h.accs k.accs⟩
structure Later (ts ts' : List Tr) : Prop where
  len : ts.length ≤ ts'.length
  each : ∀ (i : Nat) (t : Tr), ts[i]? = some t → ∃ t', ts'[i]? = some t' ∧ TryLater t t'
theorem Later.trans {a b c : List Tr} (h : Later a b) (k : Later b c) : Later a c :=
  ⟨Nat.le_trans h.len k.len, fun i t ht => by
    obtain ⟨t1, h1, l1⟩ := h.each i t ht
    obtain ⟨t2, h2, l2⟩ := k.each i t1 h1
    exact ⟨t2, h2, l1.trans l2⟩⟩
/-- How many committed: a commit each. -/
theorem countP_set {α : Type} (p : α → Bool) : ∀ (l : List α) (k : Nat) (x y : α), l[k]? = some x → (l.set k y).countP p + (if p x then 1 else 0) = l.countP p + (if p y then 1 else 0)
  | [], k, x, y, h => by simp at h
  | a :: l, 0, x, y, h => by
    simp only [List.getElem?_cons_zero, Option.some.injEq] at h
    subst h
    simp only [List.set_cons_zero, List.countP_cons]; omega
  | a :: l, k + 1, x, y, h => by
    rw [List.getElem?_cons_succ] at h
    have := countP_set p l k x y h
    simp only [List.set_cons_succ, List.countP_cons]; omega
theorem turn_committed {t t' : Tr} {i : Int} {e : Ev} (ho : t.f7 = false) (h : turnTr t i e = some t') : t'.f7 = (e.f0 == 5) := by
  unfold turnTr at h
  split at h
  · rename_i hk
    injection h with h; subst h
    show t.f7 = _
    rw [ho]
    rcases Bool.or_eq_true _ _ ▸ hk with hk | hk <;> (rw [beq_iff_eq.1 hk]; rfl)
  split at h
  · rename_i hk
    injection h with h; subst h
    show t.f7 = _
    rw [ho, beq_iff_eq.1 hk]; rfl
  split at h
  · rename_i hk
    injection h with h; subst h
    exact hk.symm
  split at h
  · rename_i hk
    injection h with h; subst h
    show t.f7 = _
    rw [ho, beq_iff_eq.1 hk]; rfl
  · cases h
theorem step_committed {l : List Ev} {n : Nat} {ts ts' : List Tr} {e : Ev} (h : ∀ t ∈ ts, TryGood l n t) (hs : stepM ts n e = some ts') : ts'.countP (fun t => t.f7) = ts.countP (fun t => t.f7) + (if e.f0 == 5 then 1 else 0) := by
  unfold stepM at hs
  split at hs
  · rename_i h1
    split at hs
    · cases hs
    · injection hs with hs
      subst hs
      rw [List.countP_append, List.countP_singleton, beq_iff_eq.1 h1]; rfl
  split at hs
  · rename_i h7
    split at hs
    · cases hs
    · injection hs with hs
      subst hs
      rw [beq_iff_eq.1 h7]; rfl
  split at hs
  · rename_i k hk
    split at hs
    · rename_i t ht
      split at hs
      · rename_i hc
        rw [Option.map_eq_some_iff] at hs
        obtain ⟨t', h1, h2⟩ := hs
        subst h2
        simp only [Bool.and_eq_true, decide_eq_true_eq] at hc
        have ho := ((h t (List.mem_of_getElem? ht)).op hc.1.1).2.1
        have h3 := countP_set (fun t : Tr => t.f7) ts k t t' ht
        simp only [ho, turn_committed ho h1] at h3
        simpa using h3
      · cases hs
    · cases hs
  · cases hs
theorem readFrom_committed (l : List Ev) : ∀ (m n : Nat) (ts ts' : List Tr), n + m = l.length → (∀ t ∈ ts, TryGood l n t) → readFrom ts n (l.drop n) = some ts' → ts'.countP (fun t => t.f7) = ts.countP (fun t => t.f7) + (l.drop n).countP (fun e => e.f0 == 5)
  | 0, n, ts, ts', hn, h, hr => by
    have hd : l.drop n = [] := List.drop_eq_nil_iff.2 (by omega)
    rw [hd] at hr ⊢
    injection hr with hr
    subst hr
    rfl
  | m + 1, n, ts, ts', hn, h, hr => by
    have hlt : n < l.length := by omega
    rw [List.drop_eq_getElem_cons hlt] at hr ⊢
    unfold readFrom at hr
    rw [Option.bind_eq_some_iff] at hr
    obtain ⟨t1, h1, h2⟩ := hr
    obtain ⟨g1, _⟩ := step_good h (List.getElem?_eq_getElem hlt) h1
    have g3 := readFrom_committed l m (n + 1) t1 ts' (by omega) g1 h2
    rw [g3, step_committed h h1, List.countP_cons]
    omega
theorem committed_count {l : List Ev} (h : rightM l = true) : ((triesM l).filter (fun t => t.f7)).length = beforeM l l.length := by
  rw [← List.countP_eq_length_filter]
  unfold beforeM
  rw [Int.toNat_natCast, List.take_length]
  unfold rightM triesM readM at *
  cases hr : readFrom [] 0 l with
  | none => rw [hr] at h; cases h
  | some ts =>
    have := readFrom_committed l l.length 0 [] ts (by omega) (by simp) hr
    simpa using this
end Go.Proofs.Ytjmnbbflahacoaa.Hist
