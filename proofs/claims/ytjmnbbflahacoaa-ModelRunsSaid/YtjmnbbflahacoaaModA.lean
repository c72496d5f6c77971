/- hist, plain: those that committed are one list: sorted by their ends. No condition. -/
import Derived.Test.YtjmnbbflahacoaaHistZ
import Derived.Test.YtjmnbbflahacoaaHistY
import Derived.Lib.SliceRun
namespace Go.Proofs.Ytjmnbbflahacoaa.Model
open Go.RowKit Go.Proofs.Ytjmnbbflahacoaa.Mem Go.Proofs.Ytjmnbbflahacoaa.Hist Go.Proofs.Ytjmnbbflahacoaa.PHistTells Go.Proofs.YtjmnbbflahacoaaW.PrintWords
set_option linter.unusedVariables false
set_option linter.unusedSimpArgs false

/-- Ends are places behind us, and each is of one try. -/
structure Ends (n : Nat) (ts : List Tr) : Prop where
  lt : ∀ t ∈ ts, t.f5 < n
  com : ∀ t ∈ ts, t.f7 = true → 0 ≤ t.f5
  one : ∀ (i j : Nat) (t u : Tr), ts[i]? = some t → ts[j]? = some u → 0 ≤ t.f5 → t.f5 = u.f5 → i = j
theorem Ends.start : Ends 0 [] := ⟨fun t h => by simp at h, fun t h => by simp at h, fun i j t u h => by simp at h⟩
theorem turn_ends {t t' : Tr} {n : Nat} {e : Ev} (h : turnTr t (n : Int) e = some t') : (t'.f5 = t.f5 ∧ t'.f7 = t.f7) ∨ t'.f5 = n := by
  unfold turnTr at h
  split at h
  · injection h with h; subst h; exact .inl ⟨rfl, rfl⟩
  split at h
  · injection h with h; subst h; exact .inl ⟨rfl, rfl⟩
  split at h
  · injection h with h; subst h; exact .inr rfl
  split at h
  · injection h with h; subst h; exact .inr rfl
  · cases h
theorem Ends.step {n : Nat} {ts ts' : List Tr} {e : Ev} (h : Ends n ts) (hs : stepM ts n e = some ts') : Ends (n + 1) ts' := by
  unfold stepM at hs
  split at hs
  · split at hs
    · cases hs
    · injection hs with hs
      subst hs
      refine ⟨fun t ht => ?_, fun t ht => ?_, fun i j t u hi hj h0 he => ?_⟩
      · rw [List.mem_append, List.mem_singleton] at ht
        rcases ht with ht | rfl
        · have := h.lt t ht; omega
        · show (-1 : Int) < _; omega
      · rw [List.mem_append, List.mem_singleton] at ht
        rcases ht with ht | rfl
        · exact h.com t ht
        · intro hh; cases hh
      · have hlt : ∀ (i : Nat) (t : Tr), (ts ++ [newTr (n : Int) e])[i]? = some t → 0 ≤ t.f5 → ts[i]? = some t := by
          intro i t hi h0
          rcases Nat.lt_or_ge i ts.length with hl | hl
          · rwa [List.getElem?_append_left hl] at hi
          · rw [List.getElem?_append_right hl] at hi
            have hk0 : i - ts.length = 0 := by
              have := (List.getElem?_eq_some_iff.1 hi).1
              simp at this
              omega
            rw [hk0] at hi
            simp only [List.getElem?_cons_zero, Option.some.injEq] at hi
            subst hi
            have : (0 : Int) ≤ -1 := h0
            omega
        exact h.one i j t u (hlt i t hi h0) (hlt j u hj (by omega)) h0 he
  split at hs
  · split at hs
    · cases hs
    · injection hs with hs
      subst hs
      exact ⟨fun t ht => by have := h.lt t ht; omega, h.com, h.one⟩
  split at hs
  · rename_i k hk
    split at hs
    · rename_i t ht
      split at hs
      · rename_i hc
        rw [Option.map_eq_some_iff] at hs
        obtain ⟨t', ht1, ht2⟩ := hs
        subst ht2
        simp only [Bool.and_eq_true, decide_eq_true_eq, beq_iff_eq] at hc
        have hkl := (List.getElem?_eq_some_iff.1 ht).1
        have htm := List.mem_of_getElem? ht
        have hte := turn_ends ht1
        refine ⟨fun u hu => ?_, fun u hu hu7 => ?_, fun i j a b hi hj h0 he => ?_⟩
        · rcases List.mem_or_eq_of_mem_set hu with hu | rfl
          · have := h.lt u hu; omega
          · have := h.lt t htm
            rcases hte with hte | hte <;> omega
        · rcases List.mem_or_eq_of_mem_set hu with hu | rfl
          · exact h.com u hu hu7
          · rcases hte with hte | hte
            · rw [hte.2] at hu7
              rw [hte.1]
              exact h.com t htm hu7
            · omega
        · by_cases hik : k = i
          · subst hik
            rw [List.getElem?_set_self hkl] at hi
            injection hi with hi
            subst hi
            by_cases hjk : k = j
            · exact hjk
            · rw [List.getElem?_set_ne hjk] at hj
              have h2 := h.lt b (List.mem_of_getElem? hj)
              rcases hte with hte | hte
              · have := hc.1.1; omega
              · omega
          · rw [List.getElem?_set_ne hik] at hi
            have h1 := h.lt a (List.mem_of_getElem? hi)
            by_cases hjk : k = j
            · subst hjk
              rw [List.getElem?_set_self hkl] at hj
              injection hj with hj
              subst hj
              rcases hte with hte | hte
              · have := hc.1.1; omega
              · omega
            · rw [List.getElem?_set_ne hjk] at hj
              exact h.one i j a b hi hj h0 he
      · cases hs
    · cases hs
  · cases hs
theorem readFrom_ends : ∀ (l : List Ev) (n : Nat) (ts ts' : List Tr), Ends n ts → readFrom ts n l = some ts' → Ends (n + l.length) ts'
  | [], n, ts, ts', h, hr => by
    injection hr with hr
    subst hr
    exact h
  | e :: l, n, ts, ts', h, hr => by
    unfold readFrom at hr
    rw [Option.bind_eq_some_iff] at hr
    obtain ⟨t1, h1, h2⟩ := hr
    have := readFrom_ends l (n + 1) t1 ts' (h.step h1) h2
    rw [List.length_cons, show n + (l.length + 1) = n + 1 + l.length by omega]
    exact this
theorem ends_of_right {l : List Ev} (h : rightM l = true) : Ends l.length (triesM l) := by
  unfold rightM at h
  unfold triesM
  cases hr : readM l with
  | none => rw [hr] at h; cases h
  | some ts =>
    have := readFrom_ends l 0 [] ts Ends.start hr
    rwa [Nat.zero_add] at this

/-- Those that committed, by their ends. -/
def commitsM (l : List Ev) : List Tr := (List.range l.length).flatMap (fun i : Nat => (triesM l).filter (fun t => t.f7 && t.f5 == (i : Int)))
theorem split_last : ∀ (cs : List Tr) (n : Nat), cs.Pairwise (fun a b => a.f5 ≤ b.f5) → (∀ t ∈ cs, t.f5 < (n : Int) + 1) → cs = cs.filter (fun t => decide (t.f5 < (n : Int))) ++ cs.filter (fun t => t.f5 == (n : Int))
  | [], n, _, _ => rfl
  | a :: cs, n, hp, hlt => by
    rw [List.pairwise_cons] at hp
    have ih := split_last cs n hp.2 (fun t ht => hlt t (List.mem_cons_of_mem _ ht))
    by_cases h : a.f5 < (n : Int)
    · rw [List.filter_cons, if_pos (by simpa using h), List.filter_cons, if_neg (by simp; omega), List.cons_append, ← ih]
    · have ha : a.f5 = (n : Int) := by have := hlt a List.mem_cons_self; omega
      have hall : ∀ t ∈ a :: cs, t.f5 = (n : Int) := by
        intro t ht
        have h1 := hlt t ht
        rcases List.mem_cons.1 ht with rfl | ht
        · exact ha
        · have := hp.1 t ht; omega
      rw [List.filter_eq_nil_iff.2 (fun t ht => by have := hall t ht; simp; omega), List.filter_eq_self.2 (fun t ht => by have := hall t ht; simpa using this), List.nil_append]
theorem buckets (p : Tr → Bool) : ∀ (n : Nat) (cs : List Tr), cs.Pairwise (fun a b => a.f5 ≤ b.f5) → (∀ t ∈ cs, 0 ≤ t.f5 ∧ t.f5 < (n : Int)) → cs = (List.range n).flatMap (fun i : Nat => cs.filter (fun t => t.f5 == (i : Int)))
  | 0, cs, _, h => by
    cases cs with
    | nil => rfl
    | cons a cs => have := h a List.mem_cons_self; omega
  | n + 1, cs, hp, h => by
    have h1 := split_last cs n hp (fun t ht => by have := (h t ht).2; omega)
    have hd : (cs.filter (fun t => decide (t.f5 < (n : Int)))).Pairwise (fun a b => a.f5 ≤ b.f5) := hp.filter _
    have ih := buckets p n _ hd (fun t ht => by
      have h2 := List.mem_filter.1 ht
      have h3 := (h t h2.1).1
      have h4 : t.f5 < (n : Int) := by simpa using h2.2
      exact ⟨h3, h4⟩)
    rw [List.range_succ, List.flatMap_append]
    have e : (List.range n).flatMap (fun i : Nat => (cs.filter (fun t => decide (t.f5 < (n : Int)))).filter (fun t => t.f5 == (i : Int))) = (List.range n).flatMap (fun i : Nat => cs.filter (fun t => t.f5 == (i : Int))) := by
      rw [List.flatMap_def, List.flatMap_def]
      congr 1
      apply List.map_congr_left
      intro i hi
      rw [List.filter_filter]
      apply List.filter_congr
      intro t _
      have hi' : i < n := by simpa using hi
      by_cases ht : t.f5 = (i : Int)
      · simp [ht]; omega
      · simp [ht]
    rw [e] at ih
    rw [← ih]
    simpa using h1

theorem short_perm {α : Type} {a b : List α} (h : a.Perm b) (hl : a.length ≤ 1) : a = b := by
  match a, hl with
  | [], _ => exact (List.nil_perm.1 h).symm
  | [x], _ => exact (List.singleton_perm.1 h).symm ▸ rfl
theorem short_of {p : Tr → Prop} : ∀ {l : List Tr}, l.Pairwise (fun a b => ¬ (p a ∧ p b)) → (∀ t ∈ l, p t) → l.length ≤ 1
  | [], _, _ => Nat.zero_le _
  | [a], _, _ => Nat.le_refl _
  | a :: b :: l, h, hp => by
    rw [List.pairwise_cons] at h
    exact absurd ⟨hp a (by simp), hp b (by simp)⟩ (h.1 b (by simp))

theorem tries_wrong {l : List Ev} (h : rightM l = false) : triesM l = [] := by
  unfold rightM at h
  unfold triesM
  cases hr : readM l with
  | none => rfl
  | some ts => rw [hr] at h; cases h
theorem commits_is {l : List Ev} {cs : List Tr} (h : CommitsOf l cs) : cs = commitsM l := by
  cases hr : rightM l with
  | false =>
    have hp := h.perm
    unfold ended at hp
    rw [tries_wrong hr] at hp
    have : cs = [] := List.perm_nil.1 hp
    unfold commitsM
    rw [tries_wrong hr, this]
    simp
  | true =>
    have hE := ends_of_right hr
    have hin : ∀ t ∈ cs, t ∈ triesM l ∧ t.f7 = true := fun t ht => by
      have := h.perm.mem_iff.1 ht
      unfold ended at this
      exact List.mem_filter.1 this
    rw [buckets (fun _ => true) l.length cs h.rise (fun t ht => ⟨hE.com t (hin t ht).1 (hin t ht).2, hE.lt t (hin t ht).1⟩)]
    unfold commitsM
    rw [List.flatMap_def, List.flatMap_def]
    congr 1
    apply List.map_congr_left
    intro i hi
    have hp : (cs.filter (fun t => t.f5 == (i : Int))).Perm ((triesM l).filter (fun t => t.f7 && t.f5 == (i : Int))) := by
      have h1 := h.perm.filter (fun t => t.f5 == (i : Int))
      unfold ended at h1
      rw [List.filter_filter] at h1
      have e : (triesM l).filter (fun t => (t.f5 == (i : Int)) && t.f7) = (triesM l).filter (fun t => t.f7 && t.f5 == (i : Int)) := List.filter_congr (fun t _ => Bool.and_comm _ _)
      rw [e] at h1
      exact h1
    refine (short_perm hp.symm ?_).symm
    refine short_of (p := fun t => t.f5 = (i : Int)) ?_ (fun t ht => by
      have := (List.mem_filter.1 ht).2
      simp only [Bool.and_eq_true, beq_iff_eq] at this
      exact this.2)
    refine List.Pairwise.filter _ ?_
    rw [List.pairwise_iff_getElem]
    intro a b ha hb hab hh
    have := hE.one a b _ _ (List.getElem?_eq_getElem ha) (List.getElem?_eq_getElem hb) (by rw [hh.1]; omega) (by rw [hh.1, hh.2])
    omega
theorem commits_len {l : List Ev} {cs : List Tr} (h : CommitsOf l cs) : cs.length ≤ l.length := by
  rw [h.perm.length_eq]
  unfold ended
  have h1 := List.length_filter_le (fun t : Tr => t.f7) (triesM l)
  have h2 : (triesM l).length ≤ l.length := by
    unfold triesM
    cases h : readM l with
    | none => simp
    | some ts => exact readM_length h
  omega
end Go.Proofs.Ytjmnbbflahacoaa.Model
/- model, first part: slices.Clone of numbers, and Apply. No condition. -/
namespace Go.Proofs.Ytjmnbbflahacoaa.Hist
open Go.RowKit Go.Proofs.Ytjmnbbflahacoaa.Mem Go.Proofs.Ytjmnbbflahacoaa.PHistTells Go.Proofs.YtjmnbbflahacoaaW.PrintWords
set_option linter.unusedVariables false
set_option linter.unusedSimpArgs false

abbrev kI : Kd Int := Kd.int .i64
theorem infoI : (Try.prog.info? 2).map (fun i => (i.zero, i.size, i.bytes)) = some (some (.int .i64 0), 1, 8) := by kernel_rfl
theorem C_none {α : Type} {d : Kd α} {w : World} {n : Nat} {xs : List α} (h : d.C w none n xs) : xs = [] := by
  obtain ⟨h1, _, h3⟩ := h
  cases xs with
  | nil => rfl
  | cons x xs =>
    obtain ⟨ad, he, _⟩ := h3 (by rw [← h1]; simp)
    cases he

set_option maxHeartbeats 1600000 in
set_option maxRecDepth 100000 in
theorem clone_any (w : World) (A : Option Addr) (c : Nat) (xs : List Int) (hC : kI.C w A xs.length xs) (hl : xs.length ≤ 1000000) :
    Calls Try.prog 63 #[.slice A xs.length c] w fun e w' => ∃ v, e = .returned v ∧ kI.R 2 w' w.heap.size (fun _ => True) v xs ∧ Below w.heap.size w w' := by
  have HC := Veil.mk hC
  have HL := Veil.mk hl
  have HB := Veil.mk (Below.refl w.heap.size w)
  have qn : ∀ (w : World) (a : Option Addr) (n c n' c' : Nat), (binOp .eql 47 (.slice a n c) (.slice none n' c')).run Try.prog w = .ok (.bool a.isNone) w := fun w a n c n' c' => Lib.run_eql_slice_nil w _ _ a n c n' c' Try.underlying47
  cases A with
  | none =>
    have hx := C_none hC
    subst hx
    clear hC hl
    go_enter Try.func63, Try.ntmps63
    go_wp2
    go_ret
    exact ⟨_, rfl, Kd.R_nil _ _ _ _ _, HB.out⟩
  | some ad =>
    clear hC hl
    go_enter Try.func63, Try.ntmps63
    go_wp2_with (first | ((with_reducible refine gate_dst (N := 5) rfl ?_); refine Kd.R_lit (Kd.int .i64) _ 2 ?hg (N := 5) ?hd (xs := ([] : List Int)) (inner := []) (ok := fun _ => True) (okp := fun _ => True) ?hr ?hp (fun _ hk => hk) trivial (Below.refl _ _) (Nat.le_refl _) (by simp) ?_; (case hd => rfl); (case hg => rfl); (case hr => first | (go_simp; done) | (go_simp; rfl)); (case hp => exact (Reps.none _ _)); intro v5 w4 ho5 hb hg_ hnew_; clear hg_ hnew_; have HO5 := Veil.mk ho5; have HB4 := Veil.mk hb; clear ho5 hb) | ((with_reducible refine gate_builtin (b := .append) (xs := #[.tmp 5, .tmp 6]) rfl ?_); at_builtin; refine Kd.R_append_rows (Kd.int .i64) (w0 := w) w.heap.size rfl (.tmp 5) (.tmp 6) 47 2 (.int .i64 0) 8 rfl Try.underlying47 infoI rfl (by decide) (by omega) v5 [] xs _ _ _ (fun _ => True) (fun _ => False) rfl rfl ?aO ?aR (fun _ _ h => h) (fun _ h => h.elim) ?aF ?aB ?aS ?aL ?_; (case aR => exact Kd.C_below HC.out HB4.out); (case aB => exact HB4.out); (case aF => exact (fun _ _ => trivial)); (case aO => exact HO5.out); (case aS => exact HB4.out.size); (case aL => have := HL.out; simp; omega); intro v7 w6 ho hb hg hat; have HO7 := Veil.mk ho; have HB6 := Veil.mk hb; clear ho hb hg hat))
    go_ret
    exact ⟨_, rfl, by simpa using HO7.out, HB6.out⟩

/-- The values behind one access. -/
def put1 (vs : List Int) (a : Acc) : List Int := if a.f1 = 3 ∧ 0 ≤ a.f2 ∧ a.f2 < (vs.length : Int) then vs.set a.f2.toNat a.f3 else vs
/-- The values behind a try's accesses. -/
def applyM (vs : List Int) (l : List Acc) : List Int := l.foldl put1 vs
theorem put1_length (vs : List Int) (a : Acc) : (put1 vs a).length = vs.length := by unfold put1; split <;> simp
theorem applyM_length (l : List Acc) : ∀ vs, (applyM vs l).length = vs.length := by
  induction l with
  | nil => intro vs; rfl
  | cons a l ih => intro vs; unfold applyM at *; rw [List.foldl_cons, ih, put1_length]
theorem applyM_next (vs : List Int) (l : List Acc) {k : Nat} (h : k < l.length) : applyM vs (l.take (k + 1)) = put1 (applyM vs (l.take k)) l[k] := by
  unfold applyM
  rw [List.take_succ_eq_append_getElem h, List.foldl_append]
  rfl
theorem R_set_int {W : World} {base g n cap : Nat} {ok : Nat → Prop} {xs : List Int} (h : kI.R 2 W base ok (.slice (some ⟨g, 0, none⟩) n cap) xs) (i : Int) (x : Int) (hn : n = xs.length) :
    kI.R 2 (W.setCell ⟨g, i.toNat, none⟩ (.int .i64 x)) base ok (.slice (some ⟨g, 0, none⟩) n cap) (xs.set i.toNat x) := by
  subst hn
  exact (Kd.R_put h i x).1
theorem int_cell {W : World} {base g n cap : Nat} {ok : Nat → Prop} {xs : List Int} (h : kI.R 2 W base ok (.slice (some ⟨g, 0, none⟩) n cap) xs) (k : Nat) (hk : k < xs.length) :
    W.cell? ⟨g, k, none⟩ = some (.int .i64 xs[k]) ∧ W.frozen? ⟨g, k, none⟩ = false := by
  have hn := (Kd.R_reads' h).1
  obtain ⟨cs, hcl, hM, hcc, hfr⟩ := Kd.R_elem h 0 (k : Int) (by omega) (by omega)
  simp only [Int.toNat_natCast, List.getD_eq_getElem?_getD, List.getElem?_eq_getElem hk, Option.getD_some] at hM hcc hfr
  have hM' : cs = [.int .i64 xs[k]] := hM
  subst hM'
  have h1 := hcc 0 _ rfl
  have h2 := hfr 0
  have e : k * kI.sz + 0 = k := by show k * 1 + 0 = k; omega
  rw [e] at h1 h2
  exact ⟨h1, h2⟩

set_option maxHeartbeats 1600000 in
set_option maxRecDepth 100000 in
theorem apply_any (w : World) (A : Option Addr) (c : Nat) (vs : List Int) (t : Tr) (A8 : Option Addr) (c8 : Nat) (hC : kI.C w A vs.length vs) (hl : vs.length ≤ 1000000) (hT : kAcc.C w A8 t.f8.length t.f8) (ht : t.f8.length ≤ 1000000) :
    Calls Try.prog 30 #[.slice A vs.length c, .agg #[.int .i64 t.f0, .int .i64 t.f1, .int .i64 t.f2, .int .i64 t.f3, .int .i64 t.f4, .int .i64 t.f5, .int .i64 t.f6, .bool t.f7, .slice A8 t.f8.length c8]] w
      fun e w' => ∃ v, e = .returned v ∧ kI.R 2 w' w.heap.size (fun _ => True) v (applyM vs t.f8) ∧ Below w.heap.size w w' := by
  have HC := Veil.mk hC
  have HL := Veil.mk hl
  have HT := Veil.mk hT
  have HTL := Veil.mk ht
  clear hC hl hT ht
  go_enter Try.func30, Try.ntmps30
  have HX := Veil.mk (Blk.new w #[.int .i64 t.f0, .int .i64 t.f1, .int .i64 t.f2, .int .i64 t.f3, .int .i64 t.f4, .int .i64 t.f5, .int .i64 t.f6, .bool t.f7, .slice A8 t.f8.length c8] 29)
  have HB1 := Veil.mk ((Below.refl w.heap.size w).alloc (Nat.le_refl _) (.cells #[.int .i64 t.f0, .int .i64 t.f1, .int .i64 t.f2, .int .i64 t.f3, .int .i64 t.f4, .int .i64 t.f5, .int .i64 t.f6, .bool t.f7, .slice A8 t.f8.length c8] 29))
  go_wp2_with (first | (go_at_call 63; go_must (refine (clone_any _ A c vs (Kd.C_below HC.out HB1.out) HL.out).mono ?_; rintro ed w2 ⟨v, rfl, hv, hb⟩; have HV := Veil.mk hv; have HB2 := Veil.mk (below_of HB1.out hb); have HX2 := Veil.mk (HX.out.below hb HX.out.lt); have hrd := Kd.R_reads hv; obtain ⟨Av, cv, rfl, _, _⟩ := hrd; have q8 := HX2.out.cell 8 _ rfl; clear hv hb)))
  have HV0 := Veil.mk (Kd.R_lower HV.out HB1.out.size)
  go_loopw [13] (fun v13 wr => ∃ k : Nat, k ≤ t.f8.length ∧ v13 = .int .i64 k ∧ Veil (kI.R 2 wr w.heap.size (fun _ => True) (.slice Av vs.length cv) (applyM vs (t.f8.take k))) ∧ Veil (Below w.heap.size w wr)) (fun v13 _ => t.f8.length - (intOf v13).toNat)
  case atStart => exact ⟨0, Nat.zero_le _, rfl, HV0, HB2⟩
  case round =>
    obtain ⟨k, hk, rfl, HM, HB⟩ := hrel
    have htl := HTL.out
    have hvl := HL.out
    clear q8
    by_cases hlt : k < t.f8.length
    · have d1 : decide ((k : Int) < (t.f8.length : Int)) = true := decide_eq_true (by omega)
      have d2 : (k : Int) < (t.f8.length : Int) := by omega
      obtain ⟨ad, rfl, h0, h1, h2, h3, h4, h5⟩ := at_T33 (Kd.C_below HT.out HB.out) (k : Int) (by omega) (by omega)
      have hx : rd_T33 t.f8 (k : Int) = t.f8[k] := by unfold rd_T33; simp [List.getD, hlt]
      simp only [Int.toNat_natCast, hx] at h0 h1 h2 h3 h4 h5
      have HN := Veil.mk (applyM_next vs t.f8 hlt)
      have HLN := Veil.mk (applyM_length (t.f8.take k) vs)
      obtain ⟨a, ha⟩ : ∃ a, t.f8[k] = a := ⟨_, rfl⟩
      rw [ha] at h0 h1 h2 h3 h4 h5 HN
      clear hx ha
      obtain ⟨cur, hcur⟩ : ∃ cur, applyM vs (t.f8.take k) = cur := ⟨_, rfl⟩
      rw [hcur] at HM HN HLN
      clear hcur
      by_cases e1 : a.f1 = 3
      · have m1 : (a.f1 == 3) = true := beq_iff_eq.2 e1
        by_cases e2 : 0 ≤ a.f2
        · have m2 : decide (0 ≤ a.f2) = true := decide_eq_true e2
          by_cases e3 : a.f2 < (vs.length : Int)
          · have m3 : decide (a.f2 < (vs.length : Int)) = true := decide_eq_true e3
            have HP : Veil (put1 cur a = cur.set a.f2.toNat a.f3) := ⟨by unfold put1; rw [if_pos ⟨e1, e2, by rw [HLN.out]; exact e3⟩]⟩
            obtain ⟨g, rfl⟩ : ∃ g, Av = some ⟨g, 0, none⟩ := by
              obtain ⟨g, cap, he, _⟩ := Kd.R_form HM.out (by rw [HLN.out]; omega)
              injection he with he _ _
              exact ⟨g, he⟩
            obtain ⟨x5, y5⟩ := int_cell HM.out a.f2.toNat (by rw [HLN.out]; omega)
            have hgw : w.heap.size ≤ g := by obtain ⟨inner, ho⟩ := Kd.R_own HM.out; exact own_base ho g rfl
            have HGW := Veil.mk hgw
            have HB5 := Veil.mk ((Below.refl wr.heap.size wr).alloc (Nat.le_refl _) (.cells #[.int .i64 a.f0, .int .i64 a.f1, .int .i64 a.f2, .int .i64 a.f3, .bool a.f4, .bool a.f5] 33))
            have hglt : g < wr.heap.size := World.block_lt_of_cell? wr _ x5
            have x5' := alloc_cell x5
            have y5' := alloc_frozen (a := ⟨g, a.f2.toNat, none⟩) hglt y5
            clear e1 x5 y5 hgw
            go_wp2
            go_roundw
            case rel => exact ⟨k + 1, by omega, by go_num, ⟨by rw [HN.out, HP.out]; exact Kd.R_below (R_set_int HM.out a.f2 a.f3 (by rw [HLN.out])) ((Below.refl _ _).alloc (Nat.le_refl _) _)⟩, ⟨(HB.out.setCell (p := ⟨g, a.f2.toNat, none⟩) HGW.out _).alloc (by simpa [World.setCell] using HB.out.size) _⟩⟩
            case measure => simp [intOf]; omega
          · have m3 : decide (a.f2 < (vs.length : Int)) = false := decide_eq_false e3
            have HP : Veil (put1 cur a = cur) := ⟨by unfold put1; rw [if_neg (fun h => e3 (by have := h.2.2; rw [HLN.out] at this; exact this))]⟩
            clear e1
            go_wp2
            go_roundw
            case rel => exact ⟨k + 1, by omega, by go_num, ⟨by rw [HN.out, HP.out]; exact Kd.R_below HM.out ((Below.refl _ _).alloc (Nat.le_refl _) _)⟩, ⟨HB.out.alloc HB.out.size _⟩⟩
            case measure => simp [intOf]; omega
        · have m2 : decide (0 ≤ a.f2) = false := decide_eq_false e2
          have HP : Veil (put1 cur a = cur) := ⟨by unfold put1; rw [if_neg (fun h => e2 h.2.1)]⟩
          clear e1
          go_wp2
          go_roundw
          case rel => exact ⟨k + 1, by omega, by go_num, ⟨by rw [HN.out, HP.out]; exact Kd.R_below HM.out ((Below.refl _ _).alloc (Nat.le_refl _) _)⟩, ⟨HB.out.alloc HB.out.size _⟩⟩
          case measure => simp [intOf]; omega
      · have m1 : (a.f1 == 3) = false := beq_eq_false_iff_ne.2 e1
        have HP : Veil (put1 cur a = cur) := ⟨by unfold put1; rw [if_neg (fun h => e1 h.1)]⟩
        clear e1
        go_wp2
        go_roundw
        case rel => exact ⟨k + 1, by omega, by go_num, ⟨by rw [HN.out, HP.out]; exact Kd.R_below HM.out ((Below.refl _ _).alloc (Nat.le_refl _) _)⟩, ⟨HB.out.alloc HB.out.size _⟩⟩
        case measure => simp [intOf]; omega
    · have d1 : decide ((k : Int) < (t.f8.length : Int)) = false := decide_eq_false (by omega)
      have hM := HM.out
      rw [show k = t.f8.length by omega, List.take_length] at hM
      have HF := Veil.mk hM
      clear hM
      go_wp2
      go_ret
      exact ⟨_, rfl, HF.out, HB.out⟩
end Go.Proofs.Ytjmnbbflahacoaa.Hist
/- model, second part: the iterator over the states. No condition. -/
namespace Go.Proofs.Ytjmnbbflahacoaa.Model
open Go.RowKit Go.ChangeMaps Go.Maps Go.Proofs.Ytjmnbbflahacoaa.Mem Go.Proofs.Ytjmnbbflahacoaa.Hist Go.Proofs.Ytjmnbbflahacoaa.PHistTells Go.Proofs.YtjmnbbflahacoaaW.PrintWords
set_option linter.unusedVariables false
set_option linter.unusedSimpArgs false
attribute [local go_sem] Oper.semAt_some

/-- The values behind some tries. -/
def foldM (first : List Int) (ts : List Tr) : List Int := ts.foldl (fun v t => applyM v t.f8) first
theorem foldM_length (ts : List Tr) : ∀ first, (foldM first ts).length = first.length := by
  induction ts with
  | nil => intro _; rfl
  | cons t ts ih => intro first; unfold foldM at *; rw [List.foldl_cons, ih, applyM_length]
theorem foldM_next (first : List Int) (ts : List Tr) {k : Nat} (h : k < ts.length) : foldM first (ts.take (k + 1)) = applyM (foldM first (ts.take k)) ts[k].f8 := by
  unfold foldM
  rw [List.take_succ_eq_append_getElem h, List.foldl_append]
  rfl

/-- What a round keeps: all tries, accesses and values. -/
structure KeepsT (W W' : World) : Prop where
  cells : ∀ k T, Typed W k T → (T = 29 ∨ T = 33 ∨ T = 2) → W'.heap[k]? = W.heap[k]?
  size : W.heap.size ≤ W'.heap.size
theorem KeepsT.tries {W W' : World} (h : KeepsT W W') {base : Nat} {v : Value} {ts : List Tr} (hR : kTr.R 29 W base (fun _ => True) v ts) : kTr.R 29 W' base (fun _ => True) v ts :=
  Kd.R_mono (Kd.R_move (Kd.R_bound hR) (fun k hk => by
    obtain ⟨_, _, _, q, hq, cells, hc⟩ := hk
    refine h.cells k q ⟨cells, hc⟩ ?_
    have hq' : q = 29 ∨ q = 33 := by simpa [kTr, k29, k33, Kd.iso, Kd.pair, Kd.int, Kd.bool, Kd.scalar, Kd.slice] using hq
    rcases hq' with h | h
    · exact .inl h
    · exact .inr (.inl h))) (fun _ _ => trivial)
theorem KeepsT.ints {W W' : World} (h : KeepsT W W') {base : Nat} {v : Value} {xs : List Int} (hR : kI.R 2 W base (fun _ => True) v xs) : kI.R 2 W' base (fun _ => True) v xs :=
  Kd.R_mono (Kd.R_move (Kd.R_bound hR) (fun k hk => by
    obtain ⟨_, _, _, q, hq, cells, hc⟩ := hk
    refine h.cells k q ⟨cells, hc⟩ ?_
    have hq' : q = 2 := by simpa [kI, Kd.int, Kd.scalar] using hq
    exact .inr (.inr hq'))) (fun _ _ => trivial)

/-- A row's try: its cells, and its accesses, owned. -/
theorem tr_own {w : World} {base : Nat} {v : Value} {ts : List Tr} (h : kTr.R 29 w base (fun _ => True) v ts) (k : Nat) (hk : k < ts.length) :
    ∃ g n c A8 c8, v = .slice (some ⟨g, 0, none⟩) n c ∧ kAcc.R 33 w base (fun _ => True) (.slice A8 ts[k].f8.length c8) ts[k].f8 ∧
      w.cell? ⟨g, k * 9, none⟩ = some (.int .i64 ts[k].f0) ∧ w.cell? ⟨g, k * 9 + 1, none⟩ = some (.int .i64 ts[k].f1) ∧ w.cell? ⟨g, k * 9 + 2, none⟩ = some (.int .i64 ts[k].f2) ∧ w.cell? ⟨g, k * 9 + 3, none⟩ = some (.int .i64 ts[k].f3) ∧
      w.cell? ⟨g, k * 9 + 4, none⟩ = some (.int .i64 ts[k].f4) ∧ w.cell? ⟨g, k * 9 + 5, none⟩ = some (.int .i64 ts[k].f5) ∧ w.cell? ⟨g, k * 9 + 6, none⟩ = some (.int .i64 ts[k].f6) ∧ w.cell? ⟨g, k * 9 + 7, none⟩ = some (.bool ts[k].f7) ∧ w.cell? ⟨g, k * 9 + 8, none⟩ = some (.slice A8 ts[k].f8.length c8) := by
  obtain ⟨g, cap, hv, _, _, _⟩ := Kd.R_form h (by omega)
  subst hv
  obtain ⟨cs, hcl, hM, hcc, hfr⟩ := Kd.R_elem h z29 (k : Int) (by omega) (by omega)
  simp only [Int.toNat_natCast, List.getD_eq_getElem?_getD, List.getElem?_eq_getElem hk, Option.getD_some] at hM hcc
  obtain ⟨row, rfl, hrow⟩ := k29_openM hM
  obtain ⟨A8, c8, rfl⟩ := Kd.R_slice hrow
  exact ⟨g, _, _, A8, c8, rfl, Kd.R_mono hrow (fun _ _ => trivial), hcc 0 _ rfl, hcc 1 _ rfl, hcc 2 _ rfl, hcc 3 _ rfl, hcc 4 _ rfl, hcc 5 _ rfl, hcc 6 _ rfl, hcc 7 _ rfl, hcc 8 _ rfl⟩

theorem tr_cells {w : World} {b T : Nat} {t : Tr} {row : Value} (h : Blk w b T (trC t row)) : w.cell? ⟨b, 0, none⟩ = some (.int .i64 t.f0) ∧ w.cell? ⟨b, 1, none⟩ = some (.int .i64 t.f1) ∧ w.cell? ⟨b, 2, none⟩ = some (.int .i64 t.f2) ∧ w.cell? ⟨b, 3, none⟩ = some (.int .i64 t.f3) ∧
    w.cell? ⟨b, 4, none⟩ = some (.int .i64 t.f4) ∧ w.cell? ⟨b, 5, none⟩ = some (.int .i64 t.f5) ∧ w.cell? ⟨b, 6, none⟩ = some (.int .i64 t.f6) ∧ w.cell? ⟨b, 7, none⟩ = some (.bool t.f7) ∧ w.cell? ⟨b, 8, none⟩ = some row :=
  ⟨h.cell 0 _ rfl, h.cell 1 _ rfl, h.cell 2 _ rfl, h.cell 3 _ rfl, h.cell 4 _ rfl, h.cell 5 _ rfl, h.cell 6 _ rfl, h.cell 7 _ rfl, h.cell 8 _ rfl⟩

set_option maxHeartbeats 4000000 in
set_option maxRecDepth 100000 in
theorem states1_any (n : Nat) (w : World) (A : Option Addr) (c : Nat) (l : List Ev) (hC : kEv.C w A l.length l) (hl : l.length ≤ 1000000) (hok : ∀ e ∈ l, EvOk e) (Av : Option Addr) (cv : Nat) (first : List Int) (hF : kI.C w Av first.length first) (hfl : first.length ≤ 1000000)
    (L bf bl : Nat) (cf : w.cell? ⟨bf, 0, none⟩ = some (.slice Av first.length cv)) (cl : w.cell? ⟨bl, 0, none⟩ = some (.slice A l.length c)) (hacc : ∀ t ∈ commitsM l, t.f8.length ≤ 1000000)
    (J : Nat → World → Prop) (hab : ∀ k W W', J k W → Below W.heap.size W W' → J k W')
    (hround : ∀ (k : Nat) (t : Tr) (row v : Value) W, k < l.length → (commitsM l)[k]? = some t → J k W → kAcc.R 33 W w.heap.size (fun _ => True) row t.f8 → kI.R 2 W w.heap.size (fun _ => True) v (foldM first ((commitsM l).take (k + 1))) →
      YieldAt Fence.wide (n - 1) Try.prog L #[.agg (trC t row).toArray, v] W (fun e W' => e = .returned (.bool true) ∧ (J (k + 1) W' ∧ KeepsT W W')))
    (h0 : J 0 w) :
    CallsIn Fence.wide n Try.prog 79 #[.func (.yield L) #[] #[], .pointer (some ⟨bf, 0, none⟩), .pointer (some ⟨bl, 0, none⟩)] w
      fun e W' => (∃ v, e = .returned v) ∧ J (commitsM l).length W' := by
  have HR := Veil.mk (commits_any w A c l hC (by omega) hok)
  have HJ := Veil.mk h0
  have HLL := Veil.mk hl
  have HFL := Veil.mk hfl
  have HFC := Veil.mk hF
  have HAB := Veil.mk hab
  have HRO := Veil.mk hround
  have HAC := Veil.mk hacc
  have HCI : Veil (∀ cs, CommitsOf l cs → cs = commitsM l) := ⟨fun cs h => commits_is h⟩
  clear hC hl hok hab hround h0 hF hfl hacc
  obtain ⟨cs, hcs⟩ : ∃ cs, commitsM l = cs := ⟨_, rfl⟩
  rw [hcs] at HRO HAC HCI ⊢
  clear hcs
  refine callsIn_of_wp Try.func79 rfl trivial ?_ rfl
  simp only [Try.ntmps79, List.size_toArray, List.length_cons, List.length_nil, Nat.reduceAdd, Nat.reduceSub, Array.replicate_succ, Array.replicate_zero, List.push_toArray, List.append_toArray, List.nil_append, List.cons_append]
  gi_wp2_with (refine ⟨trivial, wide_ok, ?_⟩; gi_at_call 25; refine ((callsIn_wide (n := n - 1)).2 HR.out).mono ?_; rintro ed w2 ⟨v, cs1, rfl, hv, hcs, hb⟩; have hlen := commits_len hcs; have hce := (HCI.out cs1 hcs).symm; subst hce; have hvr := Kd.R_reads hv; obtain ⟨Ac, cc, rfl, _, _⟩ := hvr; have HT := Veil.mk hv; have HB2 := Veil.mk hb; have HLN := Veil.mk hlen; clear hv hcs hb hlen)
  have HF2 := Veil.mk (Kd.C_below HFC.out HB2.out)
  have HJ2 := Veil.mk (HAB.out _ _ _ HJ.out HB2.out)
  clear HR HJ
  gi_loopw [4, 11] (fun v4 v11 wr => ∃ (k : Nat) (Aa : Option Addr) (ca : Nat), k ≤ cs.length ∧ v11 = .int .i64 k ∧ v4 = .slice Aa first.length ca ∧ Veil (kI.C wr Aa first.length (foldM first (cs.take k))) ∧ Veil (J k wr) ∧ Veil (kTr.R 29 wr w.heap.size (fun _ => True) (.slice Ac cs.length cc) cs) ∧ Veil (w.heap.size ≤ wr.heap.size)) (fun _ v11 _ => cs.length - (intOf v11).toNat)
  case atStart => exact ⟨0, Av, cv, Nat.zero_le _, rfl, rfl, HF2, HJ2, HT, ⟨HB2.out.size⟩⟩
  case round =>
    obtain ⟨k, Aa, ca, hk, rfl, rfl, HA, HJk, HTk, HZk⟩ := hrel
    have hm := HLN.out
    have hm2 := HLL.out
    by_cases hlt : k < cs.length
    · obtain ⟨g, nv, cv', A8, c8, hve, hac, q0, q1, q2, q3, q4, q5, q6, q7, q8⟩ := tr_own HTk.out k hlt
      injection hve with hve h2 h3
      subst hve h2 h3
      have d1 : decide ((k : Int) < (cs.length : Int)) = true := decide_eq_true (by omega)
      have d2 : (k : Int) < (cs.length : Int) := by omega
      have HGT : Veil (cs[k]? = some cs[k]) := ⟨List.getElem?_eq_getElem hlt⟩
      have HNX := Veil.mk (foldM_next first cs hlt)
      have HLK := Veil.mk (HAC.out cs[k] (List.getElem_mem hlt))
      have HFF := Veil.mk (foldM_length (cs.take k) first)
      obtain ⟨t, ht⟩ : ∃ t, cs[k] = t := ⟨_, rfl⟩
      rw [ht] at HGT HNX HLK hac q0 q1 q2 q3 q4 q5 q6 q7 q8
      have HACC := Veil.mk hac
      have hrc := Kd.R_reads hac
      obtain ⟨A8', c8', he8, _, hC8⟩ := hrc
      injection he8 with he1 _ he3
      subst he1 he3
      have HC8 := Veil.mk hC8
      clear ht hac hC8
      obtain ⟨cur, hcur⟩ : ∃ cur, foldM first (cs.take k) = cur := ⟨_, rfl⟩
      rw [hcur] at HA HNX HFF
      clear hcur
      have hcl := HFF.out
      rw [← hcl] at HA
      have HBA := Veil.mk ((Below.refl wr.heap.size wr).alloc (Nat.le_refl _) (.cells #[.int .i64 t.f0, .int .i64 t.f1, .int .i64 t.f2, .int .i64 t.f3, .int .i64 t.f4, .int .i64 t.f5, .int .i64 t.f6, .bool t.f7, .slice A8 t.f8.length c8] 29))
      have HBX := Veil.mk (Blk.new wr #[.int .i64 t.f0, .int .i64 t.f1, .int .i64 t.f2, .int .i64 t.f3, .int .i64 t.f4, .int .i64 t.f5, .int .i64 t.f6, .bool t.f7, .slice A8 t.f8.length c8] 29)
      have HAP := Veil.mk (apply_any _ Aa ca cur t A8 c8 (Kd.C_below HA.out HBA.out) (by rw [hcl]; exact HFL.out) (Kd.C_below HC8.out HBA.out) HLK.out)
      rw [hcl] at HAP
      gi_wp2_with (first | (refine ⟨trivial, wide_ok, ?_⟩; gi_at_call 30; refine ((callsIn_wide (n := n - 1)).2 HAP.out).mono ?_; go_must (rintro e w3 ⟨v, rfl, hv, hb3⟩; rw [← HNX.out] at hv; have hv0 := Kd.R_lower hv (Nat.le_trans HZk.out HBA.out.size); have HV := Veil.mk hv0; have HB3 := Veil.mk (below_of HBA.out hb3); have HX3 := Veil.mk (HBX.out.below hb3 HBX.out.lt); clear hv hb3; have hvr := Kd.R_reads hv0; obtain ⟨An, cn, rfl, _, _⟩ := hvr; clear hv0; have hcc := tr_cells HX3.out; obtain ⟨p0, p1, p2, p3, p4, p5, p6, p7, p8⟩ := hcc; have hyr := HRO.out k t (.slice A8 t.f8.length c8) _ w3 (by omega) HGT.out (HAB.out _ _ _ HJk.out HB3.out) (Kd.R_below HACC.out HB3.out) HV.out; unfold YieldAt at hyr; obtain ⟨fn, tmps, assign, body, hy, hR⟩ := hyr; dsimp only [trC] at hy; have HRR := Veil.mk hR; clear hR)))
      refine ⟨wide_ok, HRR.out.mono ?_⟩
      rintro e w4 ⟨rfl, hJ4, hK4⟩
      have HJ4 := Veil.mk hJ4
      have HK4 := Veil.mk hK4
      clear hJ4 hK4 hy
      gi_wp2
      go_roundw
      case rel => exact ⟨k + 1, An, cn, by omega, by go_num, by rw [foldM_length], ⟨by have h := (Kd.R_reads' (HK4.out.ints HV.out)).2.2; rwa [foldM_length] at h⟩, HJ4, ⟨HK4.out.tries (Kd.R_below HTk.out HB3.out)⟩, ⟨Nat.le_trans HZk.out (Nat.le_trans HB3.out.size HK4.out.size)⟩⟩
      case measure => simp [intOf]; omega
    · have d1 : decide ((k : Int) < (cs.length : Int)) = false := decide_eq_false (by omega)
      have HF : Veil (J cs.length wr) := ⟨by have := HJk.out; rwa [show k = cs.length by omega] at this⟩
      gi_wp2
      (try simp only [Exit.inBlock, Exit.then])
      go_end0
      exact ⟨⟨_, rfl⟩, HF.out⟩
end Go.Proofs.Ytjmnbbflahacoaa.Model
/- model, third part: a row that grows in a range over a function; States, Last. No condition. -/
namespace Go.Proofs.Ytjmnbbflahacoaa.Model
open Go.RowKit Go.ChangeMaps Go.Maps Go.Proofs.Ytjmnbbflahacoaa.Mem Go.Proofs.Ytjmnbbflahacoaa.Hist Go.Proofs.Ytjmnbbflahacoaa.PHistTells Go.Proofs.YtjmnbbflahacoaaW.PrintWords
set_option linter.unusedVariables false
set_option linter.unusedSimpArgs false
attribute [local go_sem] Oper.semAt_some

/-- A row in the box B that grows, while the loop r runs. -/
structure Grow {α : Type} (d : Kd α) (e TB : Nat) (w0 : World) (B : Nat) (r : Loop) (D L : Nat) (xs : List α) (W : World) : Prop where
  row : ∃ v, Blk W B TB [v] ∧ d.R e W w0.heap.size (fun _ => True) v xs
  below : Below w0.heap.size w0 W
  low : w0.heap.size ≤ B
  lowL : w0.heap.size ≤ L
  lowD : w0.heap.size ≤ D
  loop : LoopReady r D L W
theorem Grow.step {α : Type} {d : Kd α} {e TB : Nat} {w0 W W' : World} {B : Nat} {r : Loop} {D L : Nat} {xs : List α} (h : Grow d e TB w0 B r D L xs W) (hb : Below W.heap.size W W') : Grow d e TB w0 B r D L xs W' := by
  obtain ⟨v, hB, hR⟩ := h.row
  exact ⟨⟨v, hB.below hb hB.lt, Kd.R_below hR hb⟩, h.below.trans (hb.mono h.below.size), h.low, h.lowL, h.lowD, ⟨(hb.block L (Array.getElem?_eq_some_iff.1 h.loop.made).1).trans h.loop.made, (hb.block D (Array.getElem?_eq_some_iff.1 h.loop.calls).1).trans h.loop.calls⟩⟩
theorem Grow.ne {α : Type} {d : Kd α} {e TB : Nat} {w0 W : World} {B : Nat} {r : Loop} {D L : Nat} {xs : List α} (h : Grow d e TB w0 B r D L xs W) : D ≠ L := fun he => by have := h.loop.made; rw [← he, h.loop.calls] at this; cases this

/-- What stands where a round's body begins. -/
structure GrowAt {α : Type} (d : Kd α) (e TB : Nat) (w0 X Y : World) (B D L : Nat) (r : Loop) (v : Value) (xs : List α) : Prop where
  out : Blk Y B TB [v]
  row : d.R e Y w0.heap.size (fun _ => True) v xs
  busy : Y.heap[L]? = some (.loop (Loop.atBusy r))
  calls : Y.heap[D]? = some (.deferred (some []))
  size : Y.heap.size = X.heap.size
  old : ∀ k, k ≠ L → Y.heap[k]? = X.heap[k]?
  os : Y.os = X.os
  tape : Y.tape = X.tape
  output : Y.output = X.output
theorem grow_start {α : Type} {d : Kd α} {e TB : Nat} {w0 X : World} {B D L : Nat} {r : Loop} {v : Value} {xs : List α} (hG : Grow d e TB w0 B r D L xs X) (hv : Blk X B TB [v]) (hR : d.R e X w0.heap.size (fun _ => True) v xs) :
    GrowAt d e TB w0 X (X.putObj L (.loop (Loop.atBusy r))) B D L r v xs :=
  ⟨blk_loop hv hG.loop.made _, R_loop hR hG.loop.made _, World.putObj_heap_same (Array.getElem?_eq_some_iff.1 hG.loop.made).1, (World.putObj_heap_other hG.ne).trans hG.loop.calls, by simp, fun k hn => World.putObj_heap_other hn, rfl, rfl, rfl⟩
theorem grow_end {α : Type} {d : Kd α} {e TB : Nat} {w0 X Y w4 : World} {B D L : Nat} {r : Loop} {v v1 : Value} {xs : List α} {x : α} (hG : Grow d e TB w0 B r D L xs X) (h : GrowAt d e TB w0 X Y B D L r v xs) (hT : e ≠ TB) (hTE : ∀ q, q ∈ e :: d.E → q ≠ TB)
    (hR : d.R e w4 w0.heap.size (fun _ => True) v1 (xs ++ [x])) (hg : Y.grownBy w4 v.ownBlock) (hat : v1.ownBlock = v.ownBlock ∨ ∃ b, v1.ownBlock = some b ∧ Y.heap.size ≤ b) :
    Blk w4 B TB [v] ∧ (w4.setCell ⟨B, 0, none⟩ v1).heap[L]? = some (.loop (Loop.atBusy r)) ∧ Grow d e TB w0 B r D L (xs ++ [x]) ((w4.setCell ⟨B, 0, none⟩ v1).putObj L (.loop (Loop.atReady r))) ∧
      (∀ k T, Typed X k T → T ≠ TB → T ≠ e → ((w4.setCell ⟨B, 0, none⟩ v1).putObj L (.loop (Loop.atReady r))).heap[k]? = X.heap[k]?) ∧ X.heap.size ≤ ((w4.setCell ⟨B, 0, none⟩ v1).putObj L (.loop (Loop.atReady r))).heap.size := by
  have hvt : ∀ k, v.ownBlock = some k → Typed Y k e := fun k hk => row_typed h.row hk
  have hBv : some B ≠ v.ownBlock := fun he => absurd ((blk_typed h.out).ne (hvt B he.symm)) (by simpa using Ne.symm hT)
  have hLt := (Array.getElem?_eq_some_iff.1 h.busy).1
  have hLv : some L ≠ v.ownBlock := fun he => by
    obtain ⟨c, hc⟩ := hvt L he.symm
    rw [h.busy] at hc
    cases hc
  have hDv : some D ≠ v.ownBlock := fun he => by
    obtain ⟨c, hc⟩ := hvt D he.symm
    rw [h.calls] at hc
    cases hc
  have hLB : L ≠ B := fun he => by have := h.out; unfold Blk at this; rw [← he, h.busy] at this; cases this
  have hDB : D ≠ B := fun he => by have := h.out; unfold Blk at this; rw [← he, h.calls] at this; cases this
  have hDL := hG.ne
  have hB4 : Blk w4 B TB [v] := (hg.block B h.out.lt hBv).trans h.out
  have hL4 : (w4.setCell ⟨B, 0, none⟩ v1).heap[L]? = some (.loop (Loop.atBusy r)) := (Below.heap_setCell w4 _ v1 L hLB).trans ((hg.block L hLt hLv).trans h.busy)
  have hD4 : (w4.setCell ⟨B, 0, none⟩ v1).heap[D]? = some (.deferred (some [])) := (Below.heap_setCell w4 _ v1 D hDB).trans ((hg.block D (Array.getElem?_eq_some_iff.1 h.calls).1 hDv).trans h.calls)
  have hsz : (w4.setCell ⟨B, 0, none⟩ v1).heap.size = w4.heap.size := by simp [World.setCell]
  have hB5 : Blk (w4.setCell ⟨B, 0, none⟩ v1) B TB [v1] := hB4.set 0 v1
  have hB6 := blk_loop hB5 hL4 (.loop (Loop.atReady r))
  have hold : ∀ k, k < X.heap.size → k ≠ L → k ≠ B → some k ≠ v.ownBlock → ((w4.setCell ⟨B, 0, none⟩ v1).putObj L (.loop (Loop.atReady r))).heap[k]? = X.heap[k]? := fun k hk h1 h2 h3 =>
    (World.putObj_heap_other h1).trans ((Below.heap_setCell w4 _ v1 k h2).trans ((hg.block k (by rw [h.size]; omega) h3).trans (h.old k h1)))
  obtain ⟨inner, ho⟩ := Kd.R_own h.row
  refine ⟨hB4, hL4, ⟨⟨v1, hB6, R_loop (Kd.R_set hR hB4 hTE 0 v1) hL4 _⟩, ⟨?_, ?_, ?_, ?_, fun k hk => ?_⟩, hG.low, hG.lowL, hG.lowD, ⟨World.putObj_heap_same (Array.getElem?_eq_some_iff.1 hL4).1, (World.putObj_heap_other hDL).trans hD4⟩⟩, fun k T hk h1 h2 => ?_, ?_⟩
  · exact hg.os.trans (h.os.trans hG.below.os)
  · exact hg.tape.trans (h.tape.trans hG.below.tape)
  · exact hg.output.trans (h.output.trans hG.below.output)
  · have h1 := hG.below.size
    have h2 := hg.size
    have h3 := h.size
    simp only [World.putObj_size]
    rw [hsz]
    omega
  · have h1 := hG.below.size
    have h2 := hG.low
    have h3 := hG.lowL
    exact (hold k (by omega) (by omega) (by omega) (fun he => by have := own_base ho k he.symm; omega)).trans (hG.below.block k hk)
  · have hkt := typed_lt hk
    obtain ⟨c, hc⟩ := hk
    refine hold k hkt (fun he => ?_) (fun he => ?_) (fun he => ?_)
    · rw [he, hG.loop.made] at hc
      cases hc
    · have hb := h.out
      have hL' : B ≠ L := Ne.symm hLB
      have := (h.old B hL').symm.trans hb
      rw [he] at hc
      rw [hc] at this
      injection this with this
      injection this with _ this _
      exact h1 this
    · have h3 := hvt k he.symm
      obtain ⟨c', hc'⟩ := h3
      have hkL : k ≠ L := fun hh => by rw [hh, hG.loop.made] at hc; cases hc
      rw [h.old k hkL, hc] at hc'
      injection hc' with hc'
      injection hc' with _ hc' _
      exact h2 hc'
  · have h2 := hg.size
    have h3 := h.size
    simp only [World.putObj_size]
    rw [hsz]
    omega

theorem grow_done {α : Type} {d : Kd α} {e TB : Nat} {w0 W : World} {B D L : Nat} {r : Loop} {v : Value} {xs : List α} {o : Obj} (hLR : LoopReady r D L W) (hv : Blk W B TB [v]) (hR : d.R e W w0.heap.size (fun _ => True) v xs) (hb : Below w0.heap.size w0 W) (hD : w0.heap.size ≤ D) (hL : w0.heap.size ≤ L) :
    Blk (W.putObj L o) B TB [v] ∧ (W.putObj L o).heap[D]? = some (.deferred (some [])) ∧ d.R e ((W.putObj L o).putObj D (.deferred none)) w0.heap.size (fun _ => True) v xs ∧ Below w0.heap.size w0 ((W.putObj L o).putObj D (.deferred none)) := by
  have hDL : D ≠ L := fun e => by have := hLR.made; rw [← e, hLR.calls] at this; cases this
  have h2 := (World.putObj_heap_other (o := o) hDL).trans hLR.calls
  refine ⟨blk_loop hv hLR.made o, h2, R_calls (R_loop hR hLR.made o) h2 _, ⟨hb.os, hb.tape, hb.output, by have := hb.size; simpa using this, fun k hk => ?_⟩⟩
  exact (World.putObj_heap_other (by omega)).trans ((World.putObj_heap_other (by omega)).trans (hb.block k hk))

/-- A row of one, made. -/
theorem R_lit1 {α : Type} {d : Kd α} {W : World} {base e : Nat} {ok : Nat → Prop} {x : α} {cs : List Value} (hM : d.M W base ok x cs) (hbase : base ≤ W.heap.size) :
    d.R e (W.alloc (.cells cs.toArray e)) base (fun _ => True) (.slice (some ⟨W.heap.size, 0, none⟩) 1 1) [x] := by
  have hlen := d.K_len (d.K_of_M hM)
  have hrep : Reps (d.M W base ok) d.sz [x] cs := by
    have := Reps.snoc (Reps.none (d.M W base ok) d.sz) hM hlen
    simpa using this
  refine ⟨fun k hk => trivial, cs, ?_, ?_⟩
  · have h2 := World.ownsRow_lit (base := base) (e := e) (size := d.sz) W cs.toArray 1 hbase (by simp [maxLen]) (by simpa using hlen)
    simpa using h2
  · refine hrep.imp_ (fun p c hp => d.M_mono (fun k hk => ⟨trivial, fun he => ?_⟩) (Kd.M_below (d.M_bound hp) (below_alloc (Below.refl _ _) _)))
    have h3 : k = W.heap.size := by simpa [Value.ownBlock] using he
    have := hk.2.2.1
    omega

abbrev kS : Kd (List Int) := Kd.slice 2 kI
theorem infoS : (Try.prog.info? 47).map (fun i => (i.zero, i.size, i.bytes)) = some (some (.slice none 0 0), 1, 24) := by kernel_rfl
/-- The first values, and those behind each of the first k tries. -/
def stsUpTo (first : List Int) (cs : List Tr) (k : Nat) : List (List Int) := first :: (List.range k).map (fun i : Nat => foldM first (cs.take (i + 1)))
theorem stsUpTo_next (first : List Int) (cs : List Tr) (k : Nat) : stsUpTo first cs (k + 1) = stsUpTo first cs k ++ [foldM first (cs.take (k + 1))] := by
  unfold stsUpTo
  rw [List.range_succ, List.map_append]
  rfl
theorem stsUpTo_length (first : List Int) (cs : List Tr) (k : Nat) : (stsUpTo first cs k).length = k + 1 := by simp [stsUpTo]
/-- The states of a trace. -/
def stsM (first : List Int) (l : List Ev) : List (List Int) := stsUpTo first (commitsM l) (commitsM l).length

theorem statesf_any (w : World) (Av : Option Addr) (n cv : Nat) (A : Option Addr) (m c : Nat) : Calls Try.prog 64 #[.slice Av n cv, .slice A m c] w
      fun ed w' => ed = .returned (.func (.func 79) #[] #[.pointer (some ⟨w.heap.size, 0, none⟩), .pointer (some ⟨w.heap.size + 1, 0, none⟩)]) ∧ w' = (w.alloc (.cells #[.slice Av n cv] 47)).alloc (.cells #[.slice A m c] 22) := by
  go_enter Try.func64, Try.ntmps64
  go_wp2
  go_ret
  exact ⟨rfl, rfl⟩

theorem sts_elem {Y : World} {base : Nat} {v vo : Value} {xs : List Int} {ys : List (List Int)} (h : kI.R 2 Y base (fun _ => True) v xs) (ho : kS.R 47 Y base (fun _ => True) vo ys) : kS.M Y base (fun j => some j ≠ vo.ownBlock) xs [v] :=
  ⟨v, rfl, Kd.R_mono (Kd.R_bound h) (fun k hk he => by
    obtain ⟨_, _, _, q, hq, cells, hc⟩ := hk
    have hq' : q = 2 := by simpa [kI, Kd.int, Kd.scalar] using hq
    have h1 : Typed Y k 47 := row_typed ho he.symm
    have h2 : Typed Y k q := ⟨cells, hc⟩
    have h3 := h1.ne h2
    rw [hq'] at h3
    exact absurd h3 (by decide))⟩

/-- What stands where States's loop begins. -/
structure StsStart (w w1 w5 : World) (v : Value) (first : List Int) (Av : Option Addr) (n cv : Nat) (A : Option Addr) (m c : Nat) : Prop where
  out : Blk w5 (w1.heap.size + 1) 51 [.slice (some ⟨w1.heap.size, 0, none⟩) 1 1]
  row : kS.R 47 w5 w.heap.size (fun _ => True) (.slice (some ⟨w1.heap.size, 0, none⟩) 1 1) [first]
  f : w5.cell? ⟨w1.heap.size + 1 + 1, 0, none⟩ = some (.slice Av n cv)
  l : w5.cell? ⟨w1.heap.size + 1 + 1 + 1, 0, none⟩ = some (.slice A m c)
  below : Below w.heap.size w w5
  size : w5.heap.size = w1.heap.size + 4
theorem sts_start {w w1 : World} {v : Value} {first : List Int} (hb : Below w.heap.size w w1) (hv : kI.R 2 w1 w.heap.size (fun _ => True) v first) (Av : Option Addr) (n cv : Nat) (A : Option Addr) (m c : Nat) :
    StsStart w w1 ((((w1.alloc (.cells #[v] 47)).alloc (.cells #[.slice (some ⟨w1.heap.size, 0, none⟩) 1 1] 51)).alloc (.cells #[.slice Av n cv] 47)).alloc (.cells #[.slice A m c] 22)) v first Av n cv A m c := by
  have h1 : (w1.alloc (.cells #[v] 47)).heap.size = w1.heap.size + 1 := by simp
  have h2 : ((w1.alloc (.cells #[v] 47)).alloc (.cells #[.slice (some ⟨w1.heap.size, 0, none⟩) 1 1] 51)).heap.size = w1.heap.size + 2 := by simp
  have h3 : (((w1.alloc (.cells #[v] 47)).alloc (.cells #[.slice (some ⟨w1.heap.size, 0, none⟩) 1 1] 51)).alloc (.cells #[.slice Av n cv] 47)).heap.size = w1.heap.size + 3 := by simp
  have r1 := R_lit1 (d := kS) (e := 47) (x := first) (cs := [v]) (ok := fun _ => True) (W := w1) (base := w.heap.size) ⟨v, rfl, hv⟩ hb.size
  have b2 := Blk.new (w1.alloc (.cells #[v] 47)) #[.slice (some ⟨w1.heap.size, 0, none⟩) 1 1] 51
  have b3 := Blk.new ((w1.alloc (.cells #[v] 47)).alloc (.cells #[.slice (some ⟨w1.heap.size, 0, none⟩) 1 1] 51)) #[.slice Av n cv] 47
  have b4 := Blk.new (((w1.alloc (.cells #[v] 47)).alloc (.cells #[.slice (some ⟨w1.heap.size, 0, none⟩) 1 1] 51)).alloc (.cells #[.slice Av n cv] 47)) #[.slice A m c] 22
  rw [h1] at b2
  rw [h2] at b3
  rw [h3] at b4
  have hs := hb.size
  refine ⟨(b2.alloc _).alloc _, ?_, (b3.alloc _).cell 0 _ rfl, b4.cell 0 _ rfl, ((((hb.alloc hs _).alloc (by rw [h1]; omega) _).alloc (by rw [h2]; omega) _).alloc (by rw [h3]; omega) _), by simp⟩
  exact Kd.R_below r1 ((((Below.refl _ _).alloc (Nat.le_refl _) _).alloc (by simp) _).alloc (by simp) _)

set_option maxHeartbeats 4000000 in
set_option maxRecDepth 100000 in
theorem states_any (w : World) (A : Option Addr) (c : Nat) (l : List Ev) (Av : Option Addr) (cv : Nat) (first : List Int) (hC : kEv.C w A l.length l) (hl : l.length ≤ 1000000) (hok : ∀ e ∈ l, EvOk e) (hF : kI.C w Av first.length first) (hfl : first.length ≤ 1000000) (hacc : ∀ t ∈ commitsM l, t.f8.length ≤ 1000000) :
    Calls Try.prog 33 #[.slice Av first.length cv, .slice A l.length c] w
      fun e W' => ∃ v, e = .returned v ∧ kS.R 47 W' w.heap.size (fun _ => True) v (stsM first l) ∧ Below w.heap.size w W' := by
  have HC := Veil.mk hC
  have HL := Veil.mk hl
  have HO := Veil.mk hok
  have HF := Veil.mk hF
  have HFL := Veil.mk hfl
  have HAC := Veil.mk hacc
  have HCL := Veil.mk (clone_any w Av cv first hF hfl)
  clear hC hl hok hF hfl hacc
  refine (callsIn_wide (n := 6)).1 ?_
  refine callsIn_of_wp_marks Try.func33 rfl trivial ?_ rfl
  simp only [Try.ntmps33, List.size_toArray, List.length_cons, List.length_nil, Nat.reduceAdd, Nat.reduceSub, Array.replicate_succ, Array.replicate_zero, List.push_toArray, List.append_toArray, List.nil_append, List.cons_append]
  gi_wp2_with (first | (refine ⟨trivial, ?_⟩; gi_at_call 63; refine (callsIn_wide.2 HCL.out).mono ?_; rintro e w1 ⟨v, rfl, hv, hb⟩; have HV := Veil.mk hv; have HB1 := Veil.mk hb; have hvr := Kd.R_slice hv; obtain ⟨A1, c1, rfl⟩ := hvr; clear hv hb) | (refine ⟨trivial, ?_⟩; gi_at_call 64; refine (callsIn_wide.2 (statesf_any _ Av first.length cv A l.length c)).mono ?_; rintro e w5 ⟨rfl, rfl⟩))
  have HS := Veil.mk (sts_start HB1.out HV.out Av first.length cv A l.length c)
  generalize (((w1.alloc (.cells #[.slice A1 first.length c1] 47)).alloc (.cells #[.slice (some ⟨w1.heap.size, 0, none⟩) 1 1] 51)).alloc (.cells #[.slice Av first.length cv] 47)).alloc (.cells #[.slice A l.length c] 22) = w5 at *
  have hw1 := HB1.out.size
  refine wpIn_rangeFunc_all (gf := 79) (lb := #[.pointer (some ⟨w1.heap.size + 1 + 1, 0, none⟩), .pointer (some ⟨w1.heap.size + 1 + 1 + 1, 0, none⟩)]) rfl (by omega) rfl trivial (enters_of Try.func79 (by kernel_rfl) rfl)
    (Z := fun W => ∃ r D L, Grow kS 47 51 w (w1.heap.size + 1) r D L (stsM first l) W) ?_ ?_
  · intro r W hfn htm hps has hbd hLR hbW hsz
    have hbelow := HS.out.below.trans (hbW.mono HS.out.below.size)
    have HG0 : Grow kS 47 51 w (w1.heap.size + 1) r w5.heap.size (w5.heap.size + 1) (stsUpTo first (commitsM l) 0) W :=
      ⟨⟨_, HS.out.out.below hbW HS.out.out.lt, Kd.R_below HS.out.row hbW⟩, hbelow, by omega, by have := HS.out.below.size; omega, HS.out.below.size, hLR⟩
    have hkey := states1_any 5 W A c l (Kd.C_below HC.out hbelow) HL.out HO.out Av cv first (Kd.C_below HF.out hbelow) HFL.out (w5.heap.size + 1) (w1.heap.size + 1 + 1) (w1.heap.size + 1 + 1 + 1)
      ((hbW.cell (p := ⟨w1.heap.size + 1 + 1, 0, none⟩) (World.block_lt_of_cell? w5 _ HS.out.f)).trans HS.out.f) ((hbW.cell (p := ⟨w1.heap.size + 1 + 1 + 1, 0, none⟩) (World.block_lt_of_cell? w5 _ HS.out.l)).trans HS.out.l) HAC.out
      (fun k X => Grow kS 47 51 w (w1.heap.size + 1) r w5.heap.size (w5.heap.size + 1) (stsUpTo first (commitsM l) k) X) (fun k X Y h hb => h.step hb) ?hround HG0
    · refine hkey.mono ?_
      rintro e W2 ⟨he, hG⟩
      exact ⟨he, hG.loop, r, _, _, hG⟩
    case hround =>
      intro k t row v X hk ht hJ hac hv
      have HJ := Veil.mk hJ
      have HV2 := Veil.mk (Kd.R_lower hv hbelow.size)
      have HK := Veil.mk hk
      have HN := Veil.mk (stsUpTo_next first (commitsM l) k)
      have HLL := Veil.mk (stsUpTo_length first (commitsM l) k)
      clear hJ hac hv hk ht
      refine yieldAt_of (r := r) trivial HJ.out.loop.made (by rw [hps]; rfl) ?_
      rw [has, hbd, hps, htm]
      dsimp only [trC]
      gi_wp2_with fail
      refine ⟨HJ.out.loop.made, ?_⟩
      have hrow := HJ.out.row
      obtain ⟨vo, hvo, hR⟩ := hrow
      obtain ⟨A0, c0, rfl, _, _⟩ := Kd.R_reads hR
      obtain ⟨Av2, cv2, rfl⟩ := Kd.R_slice HV2.out
      rw [HLL.out] at hvo hR
      have hB := grow_start HJ.out hvo hR
      have HB := Veil.mk hB
      have HVY := Veil.mk (R_loop HV2.out HJ.out.loop.made (.loop (Loop.atBusy r)))
      clear hB hvo hR
      generalize X.putObj (w5.heap.size + 1) (.loop (Loop.atBusy r)) = Y at *
      have b0 := HB.out.out.cell 0 _ rfl
      have f0 := HB.out.out.free 0
      have hXs : w.heap.size ≤ Y.heap.size := by have := HB.out.size; have := HJ.out.below.size; omega
      have HA := Veil.mk (And.intro hXs (sts_elem HVY.out HB.out.row))
      have hkl := HK.out
      have hll := HL.out
      clear hXs
      gi_wp2_with (first | (gi_at_builtin; go_must (refine R_appendIn kS w.heap.size rfl (.tmp 16) (.tmp 18) 51 47 (.slice none 0 0) 24 rfl Try.underlying51 infoS rfl (Nat.succ_pos 0) (Nat.succ_pos 23) (.slice A0 (k + 1) c0) (stsUpTo first (commitsM l) k) (foldM first ((commitsM l).take (k + 1))) _ (fun _ => True) (fun j => some j ≠ (Value.slice A0 (k + 1) c0).ownBlock) ?hs ?hx ?hp (fun _ h => ⟨trivial, h⟩) (fun _ _ => trivial) ?ho ?hb ?hl ?_); go_must (case hs => rfl); go_must (case hx => rfl); go_must (case ho => exact HB.out.row); go_must (case hb => exact HA.out.1); go_must (case hl => rw [HLL.out]; omega); go_must (case hp => exact HA.out.2)))
      intro v1 w4 hR4 hg4 hat4
      have HE := Veil.mk (grow_end HJ.out HB.out (by decide) (by intro q hq; have hq' : q = 47 ∨ q = 2 := (by simpa [kS, kI, Kd.slice, Kd.int, Kd.scalar] using hq); rcases hq' with rfl | rfl <;> decide) hR4 hg4 hat4)
      have b0 := HE.out.1.cell 0 _ rfl
      have f0 := HE.out.1.free 0
      obtain ⟨A9, c9, rfl, _, _⟩ := Kd.R_reads hR4
      have hl9 : (stsUpTo first (commitsM l) k ++ [foldM first ((commitsM l).take (k + 1))]).length = (stsUpTo first (commitsM l) k).length + 1 := by rw [List.length_append]; rfl
      rw [hl9] at HE
      clear hR4 hg4 hat4 hl9
      gi_wp2
      have hfin := HE.out.2
      rw [← HN.out] at hfin
      exact ⟨hfin.1, hfin.2.1, ⟨fun j T hj hT => hfin.2.2.1 j T hj (by rcases hT with rfl | rfl | rfl <;> decide) (by rcases hT with rfl | rfl | rfl <;> decide), hfin.2.2.2⟩⟩
  · rintro r W hLR ⟨r', D', L', hG⟩
    have hrow := hG.row
    obtain ⟨v, hv, hR⟩ := hrow
    have HE := Veil.mk (grow_done hLR hv hR hG.below HS.out.below.size (by have := HS.out.below.size; omega) (o := .loop (Loop.atEnd r)))
    clear hLR hG hv hR
    have b0 := HE.out.1.cell 0 _ rfl
    obtain ⟨A9, c9, rfl, _, _⟩ := Kd.R_reads HE.out.2.2.1
    gi_wp2
    refine ⟨by simp, .inl ⟨_, _, rfl, run_takeDeferred HE.out.2.1, ?_⟩⟩
    exact ⟨_, results_tmp rfl _ _ _, _, rfl, by have h := HE.out.2.2.1; exact h, HE.out.2.2.2⟩
end Go.Proofs.Ytjmnbbflahacoaa.Model
/- model, fourth part: the references' Vals; the document's example. No condition. -/
namespace Go.Proofs.Ytjmnbbflahacoaa.Model
open Go.RowKit Go.ChangeMaps Go.Maps Go.Proofs.Ytjmnbbflahacoaa.Mem Go.Proofs.Ytjmnbbflahacoaa.Hist Go.Proofs.Ytjmnbbflahacoaa.PHistTells Go.Proofs.YtjmnbbflahacoaaW.PrintWords
set_option linter.unusedVariables false
set_option linter.unusedSimpArgs false

theorem readFrom_acc : ∀ (l : List Ev) (ts ts' : List Tr) (i n : Nat), ts.length ≤ n → (∀ t ∈ ts, t.f8.length ≤ n) → readFrom ts i l = some ts' → ∀ t ∈ ts', t.f8.length ≤ n + l.length
  | [], ts, ts', i, n, _, ha, h => by
    injection h with h
    subst h
    exact ha
  | e :: l, ts, ts', i, n, hn, ha, h => by
    unfold readFrom at h
    rw [Option.bind_eq_some_iff] at h
    obtain ⟨t1, h1, h2⟩ := h
    obtain ⟨b1, b2⟩ := stepM_bounds h1 hn ha
    have := readFrom_acc l t1 ts' (i + 1) (n + 1) b1 b2 h2
    intro t ht
    have := this t ht
    rw [List.length_cons]
    omega
theorem triesM_acc (l : List Ev) : ∀ t ∈ triesM l, t.f8.length ≤ l.length := by
  unfold triesM
  cases h : readM l with
  | none => intro t ht; simp at ht
  | some ts =>
    have := readFrom_acc l [] ts 0 0 (Nat.le_refl _) (by simp) h
    simpa using this
theorem commitsM_acc (l : List Ev) : ∀ t ∈ commitsM l, t.f8.length ≤ l.length := by
  intro t ht
  unfold commitsM at ht
  obtain ⟨i, _, hi⟩ := List.mem_flatMap.1 ht
  exact triesM_acc l t (List.mem_filter.1 hi).1

theorem int_at {w : World} {A : Option Addr} {xs : List Int} (h : kI.C w A xs.length xs) (k : Nat) (hk : k < xs.length) : ∃ ad, A = some ad ∧ w.cell? (ad.add k) = some (.int .i64 xs[k]) := by
  obtain ⟨ad, c, e, _, hK, hc0⟩ := Kd.C_get h 0 (k : Int) (by omega) (by omega)
  have hx : xs.getD (k : Int).toNat 0 = xs[k] := by simp [List.getD, hk]
  rw [hx] at hK
  have hK' : c = [.int .i64 xs[k]] := hK
  subst hK'
  have := hc0 0 _ rfl
  refine ⟨ad, e, ?_⟩
  have e1 : (k : Int).toNat * kI.sz + 0 = k := by show (k : Int).toNat * 1 + 0 = k; omega
  rwa [e1] at this

set_option maxHeartbeats 1600000 in
set_option maxRecDepth 100000 in
theorem vals_any (w : World) (A B : Option Addr) (c d : Nat) (xs ys : List Int) (hC : kI.C w A xs.length xs) (hD : kI.C w B ys.length ys) (hl : xs.length ≤ 1000000) (hm : ys.length ≤ 1000000) :
    Calls Try.prog 31 #[.slice A xs.length c, .slice B ys.length d] w fun e w' => e = .returned (.bool (decide (xs = ys))) ∧ Below w.heap.size w w' := by
  have HC := Veil.mk hC
  have HD := Veil.mk hD
  clear hC hD
  by_cases he : xs.length = ys.length
  · have d0 : ((xs.length : Int) != (ys.length : Int)) = false := by rw [he]; simp
    rw [← he] at HD ⊢
    have HE := Veil.mk he
    clear he hm d0
    go_enter Try.func31, Try.ntmps31
    go_wp2_with fail
    go_loopw [5] (fun v5 wr => ∃ k : Nat, k ≤ xs.length ∧ v5 = .int .i64 k ∧ Veil (xs.take k = ys.take k) ∧ Veil (Below w.heap.size w wr)) (fun v5 _ => xs.length - (intOf v5).toNat)
    case atStart => exact ⟨0, Nat.zero_le _, rfl, ⟨by simp⟩, ⟨Below.refl _ _⟩⟩
    case round =>
      obtain ⟨k, hk, rfl, HT, HB⟩ := hrel
      by_cases hlt : k < xs.length
      · have hlt' : k < ys.length := by have := HE.out; omega
        have d1 : decide ((k : Int) < (xs.length : Int)) = true := decide_eq_true (by omega)
        have d2 : (k : Int) < (xs.length : Int) := by omega
        have hD' := Kd.C_below HD.out HB.out
        rw [HE.out] at hD'
        obtain ⟨ad, rfl, x0⟩ := int_at (Kd.C_below HC.out HB.out) k hlt
        obtain ⟨be, rfl, y0⟩ := int_at hD' k hlt'
        have HX := Veil.mk (show xs.take (k + 1) = xs.take k ++ [xs[k]] from List.take_succ_eq_append_getElem hlt)
        have HY := Veil.mk (show ys.take (k + 1) = ys.take k ++ [ys[k]] from List.take_succ_eq_append_getElem hlt')
        have HN : Veil (xs[k] ≠ ys[k] → decide (xs = ys) = false) := ⟨fun h => decide_eq_false (fun h' => h (by subst h'; rfl))⟩
        obtain ⟨x, hx⟩ : ∃ x, xs[k] = x := ⟨_, rfl⟩
        obtain ⟨y, hy⟩ : ∃ y, ys[k] = y := ⟨_, rfl⟩
        rw [hx] at x0 HX HN
        rw [hy] at y0 HY HN
        clear hx hy hD'
        by_cases hxy : x = y
        · subst hxy
          go_wp2_with fail
          go_quiet (fail)
          go_wp2
          exact ⟨⟨k + 1, by omega, by go_num, ⟨by rw [HX.out, HY.out, HT.out]⟩, ⟨HB.out.drewN _⟩⟩, by simp [intOf]; omega⟩
        · have m0 : (x != y) = true := by simp [hxy]
          have HF := Veil.mk (HN.out hxy)
          clear hxy
          go_wp2_with fail
          go_quiet (fail)
          go_wp2
          go_ret
          exact ⟨by rw [HF.out]; rfl, HB.out.drewN _⟩
      · have d1 : decide ((k : Int) < (xs.length : Int)) = false := decide_eq_false (by omega)
        have HF : Veil (decide (xs = ys) = true) := ⟨decide_eq_true (by have h := HT.out; have := HE.out; rwa [List.take_of_length_le (by omega), List.take_of_length_le (by omega)] at h)⟩
        go_wp2
        go_ret
        exact ⟨by rw [HF.out]; rfl, HB.out⟩
  · have d0 : (xs.length != ys.length) = true := by simp; omega
    have hn : decide (xs = ys) = false := decide_eq_false (fun h => he (by rw [h]))
    go_enter Try.func31, Try.ntmps31
    go_wp2
    go_ret
    exact ⟨by rw [hn]; rfl, Below.refl _ _⟩

def exW : List Ev := [⟨1, 0, 0, 1, 0, 0, 0⟩, ⟨3, 0, 0, 1, 0, 7, 0⟩, ⟨5, 0, 0, 1, 0, 0, 0⟩]
theorem exW_ok : ∀ e ∈ exW, EvOk e := by
  intro e he
  simp only [exW, List.mem_cons, List.not_mem_nil, or_false] at he
  rcases he with rfl | rfl | rfl <;> exact ⟨by decide, by decide⟩
theorem exW_states : stsM [5] exW = [[5], [7]] := by rfl
theorem int_lit {w : World} {b T : Nat} {x : Int} (h : Blk w b T [.int .i64 x]) : kI.C w (some ⟨b, 0, none⟩) 1 [x] := by
  refine ⟨rfl, by omega, fun _ => ⟨⟨b, 0, none⟩, rfl, fun j p hj => ?_⟩⟩
  have h0 : j = 0 := by have := (List.getElem?_eq_some_iff.1 hj).1; simp at this; omega
  subst h0
  simp only [List.getElem?_cons_zero, Option.some.injEq] at hj
  subst hj
  refine ⟨[.int .i64 x], rfl, rfl, fun i u hi => ?_⟩
  have h1 : i = 0 := by have := (List.getElem?_eq_some_iff.1 hi).1; simp at this; omega
  subst h1
  have := h.cell 0 u hi
  simpa [Addr.add] using this
/-- A row's row: its cell, and its numbers. -/
theorem sts_at {w : World} {A : Option Addr} {ss : List (List Int)} (h : kS.C w A ss.length ss) (k : Nat) (hk : k < ss.length) : ∃ ad Ak ck, A = some ad ∧ w.cell? (ad.add k) = some (.slice Ak ss[k].length ck) ∧ ss[k].length ≤ ck ∧ kI.C w Ak ss[k].length ss[k] := by
  obtain ⟨ad, c, e, _, hK, hc0⟩ := Kd.C_get h [] (k : Int) (by omega) (by omega)
  have hx : ss.getD (k : Int).toNat [] = ss[k] := by simp [List.getD, hk]
  rw [hx] at hK
  obtain ⟨Ak, ck, rfl, hl, hC⟩ := hK
  have := hc0 0 _ rfl
  have e1 : (k : Int).toNat * kS.sz + 0 = k := by show (k : Int).toNat * 1 + 0 = k; omega
  rw [e1] at this
  exact ⟨ad, Ak, ck, e, this, hl, hC⟩

theorem sts_own {w : World} {base : Nat} {v : Value} {ss : List (List Int)} (h : kS.R 47 w base (fun _ => True) v ss) (k : Nat) (hk : k < ss.length) :
    ∃ g c Ak ck, v = .slice (some ⟨g, 0, none⟩) ss.length c ∧ w.cell? ⟨g, k, none⟩ = some (.slice Ak ss[k].length ck) ∧ ss[k].length ≤ ck ∧ kI.C w Ak ss[k].length ss[k] ∧ kI.R 2 w base (fun _ => True) (.slice Ak ss[k].length ck) ss[k] ∧ base ≤ g := by
  obtain ⟨g, cap, hv, hg, _, _⟩ := Kd.R_form h (by omega)
  subst hv
  obtain ⟨cs, hcl, hM, hcc, hfr⟩ := Kd.R_elem h [] (k : Int) (by omega) (by omega)
  simp only [Int.toNat_natCast, List.getD_eq_getElem?_getD, List.getElem?_eq_getElem hk, Option.getD_some] at hM hcc
  obtain ⟨vk, rfl, hR⟩ := hM
  obtain ⟨Ak, ck, rfl, hl, hC⟩ := Kd.R_reads hR
  have := hcc 0 _ rfl
  have e1 : k * kS.sz + 0 = k := by show k * 1 + 0 = k; omega
  rw [e1] at this
  exact ⟨g, cap, Ak, ck, rfl, this, hl, hC, Kd.R_mono hR (fun _ _ => trivial), hg⟩

theorem vals_lit (w : World) (A : Option Addr) (c : Nat) (x : Int) (hC : kI.C w A 1 [x]) :
    Calls Try.prog 31 #[.slice A 1 c, .slice (some ⟨w.heap.size, 0, none⟩) 1 1] (w.alloc (.cells #[.int .i64 x] 2)) fun e w' => e = .returned (.bool true) ∧ Below w.heap.size w w' := by
  have h := vals_any (w.alloc (.cells #[.int .i64 x] 2)) A (some ⟨w.heap.size, 0, none⟩) c 1 [x] [x] (Kd.C_below hC ((Below.refl _ _).alloc (Nat.le_refl _) _)) (int_lit (Blk.new w _ _)) (by simp) (by simp)
  refine h.mono ?_
  rintro e w' ⟨rfl, hb⟩
  exact ⟨by simp, below_of ((Below.refl _ _).alloc (Nat.le_refl _) _) hb⟩

set_option maxHeartbeats 1600000 in
set_option maxRecDepth 100000 in
theorem alive18_any (w : World) : Calls Try.prog 29 #[] w fun e w' => e = .returned (.bool true) ∧ Below w.heap.size w w' := by
  have hb : Below w.heap.size w ((w.alloc (.cells #[.int .i64 1, .int .i64 0, .int .i64 0, .int .i64 1, .int .i64 0, .int .i64 0, .int .i64 0, .int .i64 3, .int .i64 0, .int .i64 0, .int .i64 1, .int .i64 0, .int .i64 7, .int .i64 0, .int .i64 5, .int .i64 0, .int .i64 0, .int .i64 1, .int .i64 0, .int .i64 0, .int .i64 0] 31)).alloc (.cells #[.int .i64 5] 2)) := ((Below.refl _ _).alloc (Nat.le_refl _) _).alloc (by simp) _
  have hC := Kd.C_below (ev_lit (l := exW) (Blk.new w #[.int .i64 1, .int .i64 0, .int .i64 0, .int .i64 1, .int .i64 0, .int .i64 0, .int .i64 0, .int .i64 3, .int .i64 0, .int .i64 0, .int .i64 1, .int .i64 0, .int .i64 7, .int .i64 0, .int .i64 5, .int .i64 0, .int .i64 0, .int .i64 1, .int .i64 0, .int .i64 0, .int .i64 0] 31) (by decide)) ((Below.refl _ _).alloc (Nat.le_refl _) (.cells #[.int .i64 5] 2))
  have hF := Blk.new (w.alloc (.cells #[.int .i64 1, .int .i64 0, .int .i64 0, .int .i64 1, .int .i64 0, .int .i64 0, .int .i64 0, .int .i64 3, .int .i64 0, .int .i64 0, .int .i64 1, .int .i64 0, .int .i64 7, .int .i64 0, .int .i64 5, .int .i64 0, .int .i64 0, .int .i64 1, .int .i64 0, .int .i64 0, .int .i64 0] 31)) #[.int .i64 5] 2
  rw [World.size_alloc] at hF
  have HC := Veil.mk hC
  have HF := Veil.mk (int_lit hF)
  have HB := Veil.mk hb
  clear hb hC hF
  go_enter Try.func29, Try.ntmps29
  go_wp2_with (first | (go_at_call 33; go_must (refine (states_any _ (some ⟨w.heap.size, 0, none⟩) 3 exW (some ⟨w.heap.size + 1, 0, none⟩) 1 [5] HC.out (by decide) exW_ok HF.out (by decide) (fun t ht => Nat.le_trans (commitsM_acc exW t ht) (by decide))).mono ?_; rintro ed w2 ⟨v, rfl, hv, hb⟩; rw [exW_states] at hv; have HB2 := Veil.mk (below_of HB.out hb); clear hb; obtain ⟨g, c1, A2, c2, rfl, z0, _, y0, _, _⟩ := sts_own hv 0 (by decide); obtain ⟨g', c1', A3, c3, he, z1, _, y1, _, _⟩ := sts_own hv 1 (by decide); injection he with he _ _; injection he with he; injection he with he _ _; subst he; have HY0 := Veil.mk y0; have HY1 := Veil.mk y1; clear y0 y1 hv)) | (go_at_call 31; with_reducible refine (vals_lit _ A2 c2 5 HY0.out).mono ?_; go_must (rintro ed w3 ⟨rfl, hb⟩; have HB3 := Veil.mk (below_of HB2.out hb); have z1' := (hb.cell (p := ⟨g, 1, none⟩) (World.block_lt_of_cell? w2 _ z1)).trans z1; have HY13 := Veil.mk (Kd.C_below HY1.out hb); clear hb)) | (go_at_call 31; with_reducible refine (vals_lit _ A3 c3 7 HY13.out).mono ?_; go_must (rintro ed w4 ⟨rfl, hb⟩; have HB4 := Veil.mk (below_of HB3.out hb); clear hb)))
  go_ret
  exact ⟨rfl, HB4.out⟩
end Go.Proofs.Ytjmnbbflahacoaa.Model
