/- hist, plain: what holds of a right trace's tries: places, ends, accesses. No condition. -/
import Derived.Test.YtjmnbbflahacoaaHistY
namespace Go.Proofs.Ytjmnbbflahacoaa.Hist
open Go.RowKit Go.Proofs.Ytjmnbbflahacoaa.Mem Go.Proofs.Ytjmnbbflahacoaa.PHistTells
set_option linter.unusedVariables false
set_option linter.unusedSimpArgs false

/-- An access is what stands at its place. -/
structure AccGood (l : List Ev) (n : Nat) (t : Tr) (a : Acc) : Prop where
  after : t.f4 < a.f0
  lt : a.f0 < n
  ahead : 0 ≤ t.f5 → a.f0 < t.f5
  ev : ∃ x, l[a.f0.toNat]? = some x ∧ x.f0 = a.f1 ∧ x.f4 = a.f2 ∧ x.f5 = a.f3 ∧ x.f1 = t.f0
  kind : a.f1 = 2 ∨ a.f1 = 3
/-- A try of a trace's first n events. -/
structure TryGood (l : List Ev) (n : Nat) (t : Tr) : Prop where
  b0 : 0 ≤ t.f4
  b1 : t.f4 < n
  bk : ∃ x, l[t.f4.toNat]? = some x ∧ x.f0 = 1
  e1 : t.f5 < n
  ek : 0 ≤ t.f5 → ∃ x, l[t.f5.toNat]? = some x ∧ t.f7 = (x.f0 == 5)
  acc : ∀ a ∈ t.f8, AccGood l n t a
  rise : t.f8.Pairwise (fun a b => a.f0 < b.f0)
  op : t.f5 < 0 → t.f5 = -1 ∧ t.f7 = false ∧ t.f6 = 0

theorem TryGood.next {l : List Ev} {n : Nat} {t : Tr} (h : TryGood l n t) : TryGood l (n + 1) t :=
  ⟨h.b0, by have := h.b1; omega, h.bk, by have := h.e1; omega, h.ek, fun a ha => by have := h.acc a ha; exact ⟨this.after, by have := this.lt; omega, this.ahead, this.ev, this.kind⟩, h.rise, h.op⟩

def totalAcc (ts : List Tr) : Nat := (ts.map (·.f8.length)).sum
theorem sum_set : ∀ (l : List Nat) (k x y : Nat), l[k]? = some x → (l.set k y).sum + x = l.sum + y
  | [], k, x, y, h => by simp at h
  | a :: l, 0, x, y, h => by
    simp only [List.getElem?_cons_zero, Option.some.injEq] at h
    subst h
    simp only [List.set_cons_zero, List.sum_cons]; omega
  | a :: l, k + 1, x, y, h => by
    rw [List.getElem?_cons_succ] at h
    have := sum_set l k x y h
    simp only [List.set_cons_succ, List.sum_cons]; omega
theorem totalAcc_set {ts : List Tr} {k : Nat} {t t' : Tr} (h : ts[k]? = some t) : totalAcc (ts.set k t') + t.f8.length = totalAcc ts + t'.f8.length := by
  unfold totalAcc
  rw [List.map_set]
  exact sum_set _ k _ _ (by rw [List.getElem?_map, h]; rfl)
def isRW (e : Ev) : Bool := e.f0 == 2 || e.f0 == 3

theorem isRW_no {e : Ev} (h : ¬ (e.f0 == 2 || e.f0 == 3) = true) : isRW e = false := by unfold isRW; cases hh : (e.f0 == 2 || e.f0 == 3); rfl; exact absurd hh h
theorem relAcc_keeps (obj : Int) (a : Acc) : (relAcc obj a).f0 = a.f0 ∧ (relAcc obj a).f1 = a.f1 ∧ (relAcc obj a).f2 = a.f2 ∧ (relAcc obj a).f3 = a.f3 := by
  unfold relAcc; split <;> exact ⟨rfl, rfl, rfl, rfl⟩

theorem turn_good {l : List Ev} {n : Nat} {t t' : Tr} {e : Ev} (h : TryGood l n t) (ho : t.f5 < 0) (hth : t.f0 = e.f1) (he : l[n]? = some e) (ht : turnTr t n e = some t') : TryGood l (n + 1) t' ∧ t'.f8.length = t.f8.length + (if isRW e then 1 else 0) := by
  unfold turnTr at ht
  split at ht
  · rename_i hk
    injection ht with ht
    subst ht
    have hn := h.next
    refine ⟨⟨hn.b0, hn.b1, hn.bk, hn.e1, hn.ek, fun a ha => ?_, ?_, hn.op⟩, by simp [withAcc, isRW, hk]⟩
    · simp only [withAcc, List.mem_append, List.mem_singleton] at ha
      rcases ha with ha | rfl
      · have := hn.acc a ha
        exact ⟨this.after, this.lt, this.ahead, this.ev, this.kind⟩
      · refine ⟨?_, ?_, fun h0 => ?_, ⟨e, ?_, rfl, rfl, rfl, hth.symm⟩, ?_⟩
        · have := h.b1; exact this
        · show (n : Int) < ((n + 1 : Nat) : Int); omega
        · have : 0 ≤ t.f5 := h0; omega
        · show l[(n : Int).toNat]? = some e
          rw [Int.toNat_natCast]; exact he
        · show e.f0 = 2 ∨ e.f0 = 3
          simpa using hk
    · show (t.f8 ++ [accOf t n e]).Pairwise _
      rw [List.pairwise_append]
      exact ⟨h.rise, by simp, fun a ha b hb => by
        rw [List.mem_singleton.1 hb]
        exact (h.acc a ha).lt⟩
  split at ht
  · rename_i hk0 hk
    injection ht with ht
    subst ht
    have hn := h.next
    refine ⟨⟨hn.b0, hn.b1, hn.bk, hn.e1, hn.ek, fun a ha => ?_, ?_, hn.op⟩, ?_⟩
    · simp only [withAcc, List.mem_map] at ha
      obtain ⟨a', ha', rfl⟩ := ha
      have := hn.acc a' ha'
      obtain ⟨r0, r1, r2, r3⟩ := relAcc_keeps e.f4 a'
      exact ⟨by rw [r0]; exact this.after, by rw [r0]; exact this.lt, by rw [r0]; exact this.ahead, by rw [r0, r1, r2, r3]; exact this.ev, by rw [r1]; exact this.kind⟩
    · show (t.f8.map (relAcc e.f4)).Pairwise _
      rw [List.pairwise_map]
      exact h.rise.imp (fun {a b} hab => by rw [(relAcc_keeps e.f4 a).1, (relAcc_keeps e.f4 b).1]; exact hab)
    · rw [isRW_no hk0]; simp [withAcc]
  split at ht
  · rename_i hk0 _ hk
    injection ht with ht
    subst ht
    refine ⟨⟨h.b0, by have := h.b1; show t.f4 < _; omega, h.bk, by show (n : Int) < _; omega, fun _ => ⟨e, by show l[(n : Int).toNat]? = _; rw [Int.toNat_natCast]; exact he, by rw [hk]⟩, fun a ha => ?_, h.rise, fun hh => by have : (n : Int) < 0 := hh; omega⟩, by rw [isRW_no hk0]; rfl⟩
    have := h.acc a ha
    exact ⟨this.after, by have := this.lt; omega, fun _ => this.lt, this.ev, this.kind⟩
  split at ht
  · rename_i hk0 _ hk5 hk
    injection ht with ht
    subst ht
    refine ⟨⟨h.b0, by have := h.b1; show t.f4 < _; omega, h.bk, by show (n : Int) < _; omega, fun _ => ⟨e, by show l[(n : Int).toNat]? = _; rw [Int.toNat_natCast]; exact he, ?_⟩, fun a ha => ?_, h.rise, fun hh => by have : (n : Int) < 0 := hh; omega⟩, by rw [isRW_no hk0]; rfl⟩
    · show t.f7 = _
      rw [(h.op ho).2.1]
      simp only [Bool.not_eq_true] at hk5
      exact hk5.symm
    · have := h.acc a ha
      exact ⟨this.after, by have := this.lt; omega, fun _ => this.lt, this.ev, this.kind⟩
  · cases ht

theorem totalAcc_append (a b : List Tr) : totalAcc (a ++ b) = totalAcc a + totalAcc b := by unfold totalAcc; rw [List.map_append, List.sum_append]
theorem step_good {l : List Ev} {n : Nat} {ts ts' : List Tr} {e : Ev} (h : ∀ t ∈ ts, TryGood l n t) (he : l[n]? = some e) (hs : stepM ts n e = some ts') : (∀ t ∈ ts', TryGood l (n + 1) t) ∧ totalAcc ts' = totalAcc ts + (if isRW e then 1 else 0) := by
  unfold stepM at hs
  split at hs
  · rename_i h1
    have hrw : isRW e = false := by unfold isRW; rw [beq_iff_eq.1 h1]; rfl
    split at hs
    · cases hs
    · injection hs with hs
      subst hs
      refine ⟨fun t ht => ?_, by rw [totalAcc_append, hrw]; rfl⟩
      simp only [List.mem_append, List.mem_singleton] at ht
      rcases ht with ht | rfl
      · exact (h t ht).next
      · refine ⟨?_, ?_, ⟨e, ?_, beq_iff_eq.1 h1⟩, ?_, fun h0 => ?_, fun a ha => ?_, ?_, fun _ => ⟨rfl, rfl, rfl⟩⟩
        · show (0 : Int) ≤ (n : Int); omega
        · show (n : Int) < ((n + 1 : Nat) : Int); omega
        · show l[(n : Int).toNat]? = some e; rw [Int.toNat_natCast]; exact he
        · show (-1 : Int) < ((n + 1 : Nat) : Int); omega
        · have : (0 : Int) ≤ -1 := h0; omega
        · simp [newTr] at ha
        · exact List.Pairwise.nil
  split at hs
  · rename_i h1 h7
    have hrw : isRW e = false := by unfold isRW; rw [beq_iff_eq.1 h7]; rfl
    split at hs
    · cases hs
    · injection hs with hs
      subst hs
      exact ⟨fun t ht => (h t ht).next, by rw [hrw]; rfl⟩
  split at hs
  · rename_i k hk
    split at hs
    · rename_i t ht
      split at hs
      · rename_i hc
        rw [Option.map_eq_some_iff] at hs
        obtain ⟨t', h1, h2⟩ := hs
        subst h2
        simp only [Bool.and_eq_true, decide_eq_true_eq, beq_iff_eq] at hc
        have hth : t.f0 = e.f1 := by
          have := (lastIx_spec e.f1 _ k hk).1
          rw [List.getElem?_map, ht] at this
          simpa using this
        obtain ⟨g1, g2⟩ := turn_good (h t (List.mem_of_getElem? ht)) hc.1.1 hth he h1
        refine ⟨fun u hu => ?_, ?_⟩
        · rcases List.mem_or_eq_of_mem_set hu with hu | rfl
          · exact (h u hu).next
          · exact g1
        · have := totalAcc_set (t' := t') ht
          omega
      · cases hs
    · cases hs
  · cases hs

theorem readFrom_good (l : List Ev) : ∀ (m n : Nat) (ts ts' : List Tr), n + m = l.length → (∀ t ∈ ts, TryGood l n t) → readFrom ts n (l.drop n) = some ts' → (∀ t ∈ ts', TryGood l l.length t) ∧ totalAcc ts' = totalAcc ts + (l.drop n).countP isRW
  | 0, n, ts, ts', hn, h, hr => by
    have hd : l.drop n = [] := List.drop_eq_nil_iff.2 (by omega)
    rw [hd] at hr ⊢
    injection hr with hr
    subst hr
    exact ⟨by rw [show l.length = n by omega]; exact h, rfl⟩
  | m + 1, n, ts, ts', hn, h, hr => by
    have hlt : n < l.length := by omega
    rw [List.drop_eq_getElem_cons hlt] at hr ⊢
    unfold readFrom at hr
    rw [Option.bind_eq_some_iff] at hr
    obtain ⟨t1, h1, h2⟩ := hr
    obtain ⟨g1, g2⟩ := step_good h (List.getElem?_eq_getElem hlt) h1
    obtain ⟨g3, g4⟩ := readFrom_good l m (n + 1) t1 ts' (by omega) g1 h2
    refine ⟨g3, ?_⟩
    rw [g4, g2, List.countP_cons]
    omega
theorem readM_good {l : List Ev} {ts : List Tr} (h : readM l = some ts) : (∀ t ∈ ts, TryGood l l.length t) ∧ totalAcc ts = l.countP isRW := by
  have := readFrom_good l l.length 0 [] ts (by omega) (by simp) h
  simpa [totalAcc] using this
theorem triesM_good (l : List Ev) : (∀ t ∈ triesM l, TryGood l l.length t) ∧ (rightM l = true → totalAcc (triesM l) = l.countP isRW) := by
  unfold triesM rightM
  cases h : readM l with
  | none => exact ⟨by simp, by simp⟩
  | some ts => exact ⟨(readM_good h).1, fun _ => (readM_good h).2⟩
end Go.Proofs.Ytjmnbbflahacoaa.Hist
/- hist, plain: a right trace's tries, transaction by transaction. No condition. -/
namespace Go.Proofs.Ytjmnbbflahacoaa.Hist
open Go.RowKit Go.Proofs.Ytjmnbbflahacoaa.Mem Go.Proofs.Ytjmnbbflahacoaa.PHistTells
set_option linter.unusedVariables false
set_option linter.unusedSimpArgs false

/-- What an event of a try leaves of it. -/
theorem turnTr_keeps {t t' : Tr} {i : Int} {e : Ev} (h : turnTr t i e = some t') : t'.f0 = t.f0 ∧ t'.f1 = t.f1 ∧ t'.f2 = t.f2 ∧ t'.f3 = t.f3 ∧ t'.f4 = t.f4 := by
  unfold turnTr at h
  split at h
  · injection h with h; subst h; exact ⟨rfl, rfl, rfl, rfl, rfl⟩
  split at h
  · injection h with h; subst h; exact ⟨rfl, rfl, rfl, rfl, rfl⟩
  split at h
  · injection h with h; subst h; exact ⟨rfl, rfl, rfl, rfl, rfl⟩
  split at h
  · injection h with h; subst h; exact ⟨rfl, rfl, rfl, rfl, rfl⟩
  · cases h

def proj (t : Tr) : Int × Int × Int × Int := (t.f0, t.f1, t.f2, t.f4)
def isOf (th tx : Int) (p : Int × Int × Int × Int) : Bool := p.1 == th && p.2.1 == tx
structure PartGood (n : Nat) (ps : List (Int × Int × Int × Int)) : Prop where
  nums : ∀ (th tx : Int) (m : Nat) (p : Int × Int × Int × Int), (ps.filter (isOf th tx))[m]? = some p → p.2.2.1 = (m : Int) + 1
  rise : ps.Pairwise (fun a b => a.2.2.2 < b.2.2.2)
  lt : ∀ p ∈ ps, p.2.2.2 < n
  ok : ∀ p ∈ ps, (Lit.int .i64 p.1).wf = true ∧ (Lit.int .i64 p.2.1).wf = true

theorem filter_proj (ts : List Tr) (th tx : Int) : (ts.map proj).filter (isOf th tx) = (ts.filter (fun t => t.f0 == th && t.f1 == tx)).map proj := by
  rw [List.filter_map]; rfl
theorem countOf_proj (ts : List Tr) (th tx : Int) : countOf th tx ts = ((ts.map proj).filter (isOf th tx)).length := by
  rw [filter_proj, List.length_map]
  unfold countOf
  rw [List.countP_eq_length_filter]

theorem step_parts {n : Nat} {ts ts' : List Tr} {e : Ev} (h : PartGood n (ts.map proj)) (he : EvOk e) (hs : stepM ts n e = some ts') : PartGood (n + 1) (ts'.map proj) := by
  have hnext : PartGood (n + 1) (ts.map proj) := ⟨h.nums, h.rise, fun p hp => by have := h.lt p hp; omega, h.ok⟩
  unfold stepM at hs
  split at hs
  · rename_i h1
    split at hs
    · cases hs
    · rename_i hc
      injection hs with hs
      subst hs
      have hat : e.f3 = (countOf e.f1 e.f2 ts : Int) + 1 := by
        simp only [Bool.or_eq_true, Bool.not_eq_true', not_or, Bool.not_eq_true, Bool.not_eq_false] at hc
        simpa using hc.2
      rw [List.map_append, List.map_cons, List.map_nil]
      refine ⟨fun th tx m p hp => ?_, ?_, fun p hp => ?_, fun p hp => ?_⟩
      · rw [List.filter_append] at hp
        rcases Nat.lt_or_ge m ((ts.map proj).filter (isOf th tx)).length with hlt | hge
        · rw [List.getElem?_append_left hlt] at hp
          exact h.nums th tx m p hp
        · rw [List.getElem?_append_right hge] at hp
          by_cases hq : isOf th tx (proj (newTr n e)) = true
          · rw [List.filter_cons_of_pos hq, List.filter_nil] at hp
            have hm : m - ((ts.map proj).filter (isOf th tx)).length = 0 := by
              have := (List.getElem?_eq_some_iff.1 hp).1
              simp at this
              omega
            rw [hm] at hp
            simp only [List.getElem?_cons_zero, Option.some.injEq] at hp
            subst hp
            have hk : e.f1 = th ∧ e.f2 = tx := by simpa [isOf, proj, newTr] using hq
            obtain ⟨rfl, rfl⟩ := hk
            have := countOf_proj ts e.f1 e.f2
            show e.f3 = _
            rw [hat]
            omega
          · rw [List.filter_cons_of_neg hq, List.filter_nil] at hp
            simp at hp
      · rw [List.pairwise_append]
        exact ⟨h.rise, by simp, fun a ha b hb => by
          rw [List.mem_singleton.1 hb]
          exact h.lt a ha⟩
      · rw [List.mem_append, List.mem_singleton] at hp
        rcases hp with hp | rfl
        · exact hnext.lt p hp
        · show (n : Int) < ((n + 1 : Nat) : Int); omega
      · rw [List.mem_append, List.mem_singleton] at hp
        rcases hp with hp | rfl
        · exact h.ok p hp
        · exact ⟨he.w1, he.w2⟩
  split at hs
  · split at hs
    · cases hs
    · injection hs with hs
      subst hs
      exact hnext
  split at hs
  · rename_i k hk
    split at hs
    · rename_i t ht
      split at hs
      · rw [Option.map_eq_some_iff] at hs
        obtain ⟨t', h1, h2⟩ := hs
        subst h2
        obtain ⟨k0, k1, k2, _, k4⟩ := turnTr_keeps h1
        rw [map_set_same proj ts k t t' ht (by unfold proj; rw [k0, k1, k2, k4])]
        exact hnext
      · cases hs
    · cases hs
  · cases hs

theorem readFrom_parts : ∀ (l : List Ev) (n : Nat) (ts ts' : List Tr), (∀ e ∈ l, EvOk e) → PartGood n (ts.map proj) → readFrom ts n l = some ts' → PartGood (n + l.length) (ts'.map proj)
  | [], n, ts, ts', _, h, hr => by
    injection hr with hr
    subst hr
    exact h
  | e :: l, n, ts, ts', hok, h, hr => by
    unfold readFrom at hr
    rw [Option.bind_eq_some_iff] at hr
    obtain ⟨t1, h1, h2⟩ := hr
    have := readFrom_parts l (n + 1) t1 ts' (fun e he => hok e (List.mem_cons_of_mem _ he)) (step_parts h (hok e List.mem_cons_self) h1) h2
    rw [List.length_cons, show n + (l.length + 1) = n + 1 + l.length by omega]
    exact this
theorem triesM_parts {l : List Ev} (hok : ∀ e ∈ l, EvOk e) : PartGood l.length ((triesM l).map proj) := by
  have h0 : PartGood 0 (([] : List Tr).map proj) := ⟨fun _ _ _ _ h => by simp at h, List.Pairwise.nil, fun _ h => by simp at h, fun _ h => by simp at h⟩
  unfold triesM
  cases h : readM l with
  | none => exact ⟨fun _ _ _ _ h => by simp at h, List.Pairwise.nil, fun _ h => by simp at h, fun _ h => by simp at h⟩
  | some ts =>
    have := readFrom_parts l 0 [] ts hok h0 h
    simpa using this

/-- A transaction's tries: numbered, and rising. -/
theorem ofM_num {l : List Ev} (hok : ∀ e ∈ l, EvOk e) {th tx : Int} {m : Nat} {t : Tr} (h : (ofM l th tx)[m]? = some t) : t.f0 = th ∧ t.f1 = tx ∧ t.f2 = (m : Int) + 1 := by
  have h1 := (triesM_parts hok).nums th tx m (proj t) (by rw [filter_proj, List.getElem?_map]; show ((ofM l th tx)[m]?).map proj = _; rw [h]; rfl)
  have h2 := (List.mem_filter.1 (List.mem_of_getElem? h)).2
  simp only [Bool.and_eq_true, beq_iff_eq] at h2
  exact ⟨h2.1, h2.2, h1⟩
theorem ofM_rise {l : List Ev} (hok : ∀ e ∈ l, EvOk e) (th tx : Int) : (ofM l th tx).Pairwise (fun a b => a.f4 < b.f4) := by
  have h := (triesM_parts hok).rise
  rw [List.pairwise_map] at h
  exact h.filter _
theorem triesM_ok {l : List Ev} (hok : ∀ e ∈ l, EvOk e) {t : Tr} (ht : t ∈ triesM l) : (Lit.int .i64 t.f0).wf = true ∧ (Lit.int .i64 t.f1).wf = true :=
  (triesM_parts hok).ok (proj t) (List.mem_map_of_mem ht)

/-- How many tries are of transactions that the first i are of. -/
def keysOf (ts : List Tr) (i : Nat) : List (Int × Int) := (ts.take i).map (fun t => (t.f0, t.f1))
def inKeys (ks : List (Int × Int)) (t : Tr) : Bool := ks.contains (t.f0, t.f1)
def partsCnt (ts : List Tr) (i : Nat) : Nat := ts.countP (inKeys (keysOf ts i))
theorem keysOf_next {ts : List Tr} {i : Nat} {t : Tr} (h : ts[i]? = some t) : keysOf ts (i + 1) = keysOf ts i ++ [(t.f0, t.f1)] := by
  obtain ⟨h1, h2⟩ := List.getElem?_eq_some_iff.1 h
  unfold keysOf
  rw [List.take_succ_eq_append_getElem h1, List.map_append, h2]; rfl
theorem partsCnt_seen {ts : List Tr} {i : Nat} {t : Tr} (h : ts[i]? = some t) (hs : (keysOf ts i).contains (t.f0, t.f1) = true) : partsCnt ts (i + 1) = partsCnt ts i := by
  unfold partsCnt
  apply List.countP_congr
  intro u _
  unfold inKeys
  rw [keysOf_next h]
  simp only [List.contains_iff_mem, List.mem_append, List.mem_singleton] at hs ⊢
  constructor
  · rintro (h | h)
    · exact h
    · rw [h]; exact hs
  · exact .inl
theorem countP_or {α : Type} (p q : α → Bool) : ∀ l : List α, (∀ x ∈ l, ¬ (p x = true ∧ q x = true)) → l.countP (fun x => p x || q x) = l.countP p + l.countP q
  | [], _ => rfl
  | x :: l, h => by
    have h1 := h x List.mem_cons_self
    have h2 := countP_or p q l (fun y hy => h y (List.mem_cons_of_mem _ hy))
    rw [List.countP_cons, List.countP_cons, List.countP_cons, h2]
    cases hp : p x <;> cases hq : q x <;> simp_all <;> omega
theorem partsCnt_new {l : List Ev} {i : Nat} {t : Tr} (h : (triesM l)[i]? = some t) (hs : (keysOf (triesM l) i).contains (t.f0, t.f1) = false) : partsCnt (triesM l) (i + 1) = partsCnt (triesM l) i + (ofM l t.f0 t.f1).length := by
  unfold partsCnt ofM
  rw [← List.countP_eq_length_filter, ← countP_or]
  · apply List.countP_congr
    intro u _
    unfold inKeys
    rw [keysOf_next h]
    simp only [List.contains_iff_mem, List.mem_append, List.mem_singleton, Bool.or_eq_true, Bool.and_eq_true, beq_iff_eq, Prod.mk.injEq]
  · rintro u _ ⟨h1, h2⟩
    simp only [Bool.and_eq_true, beq_iff_eq] at h2
    unfold inKeys at h1
    rw [h2.1, h2.2, hs] at h1
    cases h1
theorem partsCnt_all (ts : List Tr) : partsCnt ts ts.length = ts.length := by
  unfold partsCnt
  rw [List.countP_eq_length]
  intro t ht
  unfold inKeys keysOf
  rw [List.take_length]
  simp only [List.contains_iff_mem]
  exact List.mem_map_of_mem ht
theorem partsCnt_le (ts : List Tr) (i : Nat) : partsCnt ts i ≤ ts.length := List.countP_le_length
theorem partsCnt_zero (ts : List Tr) : partsCnt ts 0 = 0 := by
  unfold partsCnt
  rw [List.countP_eq_zero]
  intro t _
  simp [inKeys, keysOf]
end Go.Proofs.Ytjmnbbflahacoaa.Hist
/- hist, plain: a beginning of a right trace; how many committed. No condition. -/
namespace Go.Proofs.Ytjmnbbflahacoaa.Hist
open Go.RowKit Go.Proofs.Ytjmnbbflahacoaa.Mem Go.Proofs.Ytjmnbbflahacoaa.PHistTells
set_option linter.unusedVariables false
set_option linter.unusedSimpArgs false

theorem readFrom_append : ∀ (a b : List Ev) (ts : List Tr) (i : Nat), readFrom ts i (a ++ b) = (readFrom ts i a).bind fun ts' => readFrom ts' (i + a.length) b
  | [], b, ts, i => rfl
  | e :: a, b, ts, i => by
    rw [List.cons_append]
    show ((stepM ts i e).bind fun ts' => readFrom ts' (i + 1) (a ++ b)) = ((stepM ts i e).bind fun ts' => readFrom ts' (i + 1) a).bind fun ts' => readFrom ts' (i + (e :: a).length) b
    cases h : stepM ts i e with
    | none => rfl
    | some t1 =>
      simp only [Option.bind_some]
      rw [readFrom_append a b t1 (i + 1), List.length_cons, show i + 1 + a.length = i + (a.length + 1) by omega]

/-- Tries, later. -/
structure TryLater (t t' : Tr) : Prop where
  begins : t'.f4 = t.f4
  ends : 0 ≤ t.f5 → t'.f5 = t.f5
  accs : t.f8.length ≤ t'.f8.length
theorem TryLater.refl (t : Tr) : TryLater t t := ⟨rfl, fun _ => rfl, Nat.le_refl _⟩
theorem TryLater.trans {a b c : Tr} (h : TryLater a b) (k : TryLater b c) : TryLater a c :=
  ⟨k.begins.trans h.begins, fun h0 => (k.ends (by rw [h.ends h0]; exact h0)).trans (h.ends h0), Nat.le_trans h.accs k.accs⟩
structure Later (ts ts' : List Tr) : Prop where
  len : ts.length ≤ ts'.length
  each : ∀ (i : Nat) (t : Tr), ts[i]? = some t → ∃ t', ts'[i]? = some t' ∧ TryLater t t'
theorem Later.refl (ts : List Tr) : Later ts ts := ⟨Nat.le_refl _, fun i t h => ⟨t, h, TryLater.refl t⟩⟩
theorem Later.trans {a b c : List Tr} (h : Later a b) (k : Later b c) : Later a c :=
  ⟨Nat.le_trans h.len k.len, fun i t ht => by
    obtain ⟨t1, h1, l1⟩ := h.each i t ht
    obtain ⟨t2, h2, l2⟩ := k.each i t1 h1
    exact ⟨t2, h2, l1.trans l2⟩⟩
theorem turn_later {t t' : Tr} {i : Int} {e : Ev} (ho : t.f5 < 0) (h : turnTr t i e = some t') : TryLater t t' := by
  unfold turnTr at h
  split at h
  · injection h with h; subst h; exact ⟨rfl, fun _ => rfl, by simp [withAcc]⟩
  split at h
  · injection h with h; subst h; exact ⟨rfl, fun _ => rfl, by simp [withAcc]⟩
  split at h
  · injection h with h; subst h; exact ⟨rfl, fun h0 => by omega, Nat.le_refl _⟩
  split at h
  · injection h with h; subst h; exact ⟨rfl, fun h0 => by omega, Nat.le_refl _⟩
  · cases h
theorem step_later {ts ts' : List Tr} {i : Int} {e : Ev} (h : stepM ts i e = some ts') : Later ts ts' := by
  unfold stepM at h
  split at h
  · split at h
    · cases h
    · injection h with h
      subst h
      refine ⟨by simp, fun j t ht => ⟨t, ?_, TryLater.refl t⟩⟩
      rw [List.getElem?_append_left (List.getElem?_eq_some_iff.1 ht).1]
      exact ht
  split at h
  · split at h
    · cases h
    · injection h with h
      subst h
      exact Later.refl _
  split at h
  · rename_i k hk
    split at h
    · rename_i t ht
      split at h
      · rename_i hc
        rw [Option.map_eq_some_iff] at h
        obtain ⟨t', h1, h2⟩ := h
        subst h2
        simp only [Bool.and_eq_true, decide_eq_true_eq] at hc
        refine ⟨by simp, fun j u hu => ?_⟩
        by_cases e1 : k = j
        · subst e1
          rw [ht] at hu
          injection hu with hu
          subst hu
          exact ⟨t', by rw [List.getElem?_set_self (List.getElem?_eq_some_iff.1 ht).1], turn_later hc.1.1 h1⟩
        · exact ⟨u, by rw [List.getElem?_set_ne e1]; exact hu, TryLater.refl u⟩
      · cases h
    · cases h
  · cases h
theorem readFrom_later : ∀ (l : List Ev) (ts ts' : List Tr) (i : Nat), readFrom ts i l = some ts' → Later ts ts'
  | [], ts, ts', i, h => by
    injection h with h
    subst h
    exact Later.refl _
  | e :: l, ts, ts', i, h => by
    unfold readFrom at h
    rw [Option.bind_eq_some_iff] at h
    obtain ⟨t1, h1, h2⟩ := h
    exact (step_later h1).trans (readFrom_later l t1 ts' (i + 1) h2)
/-- A beginning of a right trace. -/
theorem begins_right {l : List Ev} (n : Nat) (h : rightM l = true) : rightM (l.take n) = true ∧ Later (triesM (l.take n)) (triesM l) := by
  unfold rightM triesM readM at *
  have h1 := readFrom_append (l.take n) (l.drop n) [] 0
  rw [List.take_append_drop] at h1
  cases hb : readFrom [] 0 (l.take n) with
  | none =>
    rw [hb] at h1
    rw [h1] at h
    cases h
  | some ts =>
    rw [hb] at h1
    simp only [Option.bind_some] at h1
    cases hl : readFrom ts (0 + (l.take n).length) (l.drop n) with
    | none =>
      rw [hl] at h1
      rw [h1] at h
      cases h
    | some ts' =>
      rw [hl] at h1
      rw [h1]
      exact ⟨rfl, readFrom_later _ _ _ _ hl⟩

/-- How many committed: a commit each. -/
theorem countP_set {α : Type} (p : α → Bool) : ∀ (l : List α) (k : Nat) (x y : α), l[k]? = some x → (l.set k y).countP p + (if p x then 1 else 0) = l.countP p + (if p y then 1 else 0)
  | [], k, x, y, h => by simp at h
  | a :: l, 0, x, y, h => by
    simp only [List.getElem?_cons_zero, Option.some.injEq] at h
    subst h
    simp only [List.set_cons_zero, List.countP_cons]; omega
  | a :: l, k + 1, x, y, h => by
    rw [List.getElem?_cons_succ] at h
    have := countP_set p l k x y h
    simp only [List.set_cons_succ, List.countP_cons]; omega
theorem turn_committed {t t' : Tr} {i : Int} {e : Ev} (ho : t.f7 = false) (h : turnTr t i e = some t') : t'.f7 = (e.f0 == 5) := by
  unfold turnTr at h
  split at h
  · rename_i hk
    injection h with h; subst h
    show t.f7 = _
    rw [ho]
    rcases Bool.or_eq_true _ _ ▸ hk with hk | hk <;> (rw [beq_iff_eq.1 hk]; rfl)
  split at h
  · rename_i hk
    injection h with h; subst h
    show t.f7 = _
    rw [ho, beq_iff_eq.1 hk]; rfl
  split at h
  · rename_i hk
    injection h with h; subst h
    exact hk.symm
  split at h
  · rename_i hk
    injection h with h; subst h
    show t.f7 = _
    rw [ho, beq_iff_eq.1 hk]; rfl
  · cases h
theorem step_committed {l : List Ev} {n : Nat} {ts ts' : List Tr} {e : Ev} (h : ∀ t ∈ ts, TryGood l n t) (hs : stepM ts n e = some ts') : ts'.countP (fun t => t.f7) = ts.countP (fun t => t.f7) + (if e.f0 == 5 then 1 else 0) := by
  unfold stepM at hs
  split at hs
  · rename_i h1
    split at hs
    · cases hs
    · injection hs with hs
      subst hs
      rw [List.countP_append, List.countP_singleton, beq_iff_eq.1 h1]; rfl
  split at hs
  · rename_i h7
    split at hs
    · cases hs
    · injection hs with hs
      subst hs
      rw [beq_iff_eq.1 h7]; rfl
  split at hs
  · rename_i k hk
    split at hs
    · rename_i t ht
      split at hs
      · rename_i hc
        rw [Option.map_eq_some_iff] at hs
        obtain ⟨t', h1, h2⟩ := hs
        subst h2
        simp only [Bool.and_eq_true, decide_eq_true_eq] at hc
        have ho := ((h t (List.mem_of_getElem? ht)).op hc.1.1).2.1
        have h3 := countP_set (fun t : Tr => t.f7) ts k t t' ht
        simp only [ho, turn_committed ho h1] at h3
        simpa using h3
      · cases hs
    · cases hs
  · cases hs
theorem readFrom_committed (l : List Ev) : ∀ (m n : Nat) (ts ts' : List Tr), n + m = l.length → (∀ t ∈ ts, TryGood l n t) → readFrom ts n (l.drop n) = some ts' → ts'.countP (fun t => t.f7) = ts.countP (fun t => t.f7) + (l.drop n).countP (fun e => e.f0 == 5)
  | 0, n, ts, ts', hn, h, hr => by
    have hd : l.drop n = [] := List.drop_eq_nil_iff.2 (by omega)
    rw [hd] at hr ⊢
    injection hr with hr
    subst hr
    rfl
  | m + 1, n, ts, ts', hn, h, hr => by
    have hlt : n < l.length := by omega
    rw [List.drop_eq_getElem_cons hlt] at hr ⊢
    unfold readFrom at hr
    rw [Option.bind_eq_some_iff] at hr
    obtain ⟨t1, h1, h2⟩ := hr
    obtain ⟨g1, _⟩ := step_good h (List.getElem?_eq_getElem hlt) h1
    have g3 := readFrom_committed l m (n + 1) t1 ts' (by omega) g1 h2
    rw [g3, step_committed h h1, List.countP_cons]
    omega
theorem committed_count {l : List Ev} (h : rightM l = true) : ((triesM l).filter (fun t => t.f7)).length = beforeM l l.length := by
  rw [← List.countP_eq_length_filter]
  unfold beforeM
  rw [Int.toNat_natCast, List.take_length]
  unfold rightM triesM readM at *
  cases hr : readFrom [] 0 l with
  | none => rw [hr] at h; cases h
  | some ts =>
    have := readFrom_committed l l.length 0 [] ts (by omega) (by simp) hr
    simpa using this
end Go.Proofs.Ytjmnbbflahacoaa.Hist
