/- Of a beginning of a trace: those that committed, its states; and two rows of states, held against each other. No condition. -/
import Derived.Test.YtjmnbbflahacoaaModA
import Derived.Test.YtjmnbbflahacoaaPlaceX
import Derived.Deep.RegionWith
import Derived.Deep.DeepCutAuto
import Derived.Test.YtjmnbbflahacoaaOpens
namespace Go.Proofs.Ytjmnbbflahacoaa.Model
open Go.RowKit Go.Proofs.Ytjmnbbflahacoaa.Mem Go.Proofs.Ytjmnbbflahacoaa.Hist Go.Proofs.Ytjmnbbflahacoaa.PHistTells Go.Proofs.YtjmnbbflahacoaaW.PrintWords
set_option linter.unusedVariables false
set_option linter.unusedSimpArgs false

/-- Committed just there? -/
def comAt (i : Nat) (t : Tr) : Bool := t.f7 && t.f5 == (i : Int)
theorem filter_set_no {α : Type} (p : α → Bool) : ∀ (l : List α) (k : Nat) (x y : α), l[k]? = some x → p x = false → p y = false → (l.set k y).filter p = l.filter p
  | [], k, x, y, h, _, _ => by simp at h
  | a :: l, 0, x, y, h, hx, hy => by
    simp only [List.getElem?_cons_zero, Option.some.injEq] at h
    subst h
    rw [List.set_cons_zero, List.filter_cons, List.filter_cons, hx, hy]
    rfl
  | a :: l, k + 1, x, y, h, hx, hy => by
    rw [List.set_cons_succ, List.filter_cons, List.filter_cons, filter_set_no p l k x y (by simpa using h) hx hy]
theorem step_com {ts ts' : List Tr} {m : Nat} {e : Ev} (h : stepM ts m e = some ts') (i : Nat) (hi : i < m) : ts'.filter (comAt i) = ts.filter (comAt i) := by
  unfold stepM at h
  split at h
  · split at h
    · cases h
    · injection h with h
      subst h
      rw [List.filter_append]
      have : [newTr (m : Int) e].filter (comAt i) = [] := by
        rw [List.filter_eq_nil_iff]
        intro t ht
        rw [List.mem_singleton] at ht
        subst ht
        simp [comAt, newTr]
      rw [this, List.append_nil]
  split at h
  · split at h
    · cases h
    · injection h with h
      subst h
      rfl
  split at h
  · rename_i k hk
    split at h
    · rename_i t ht
      split at h
      · rename_i hc
        rw [Option.map_eq_some_iff] at h
        obtain ⟨t', ht1, ht2⟩ := h
        subst ht2
        simp only [Bool.and_eq_true, decide_eq_true_eq, beq_iff_eq] at hc
        have h5 := hc.1.1
        refine filter_set_no _ ts k t t' ht ?_ ?_
        · unfold comAt
          rw [show (t.f5 == (i : Int)) = false by rw [beq_eq_false_iff_ne]; omega, Bool.and_false]
        · unfold comAt
          rw [show (t'.f5 == (i : Int)) = false by
            rw [beq_eq_false_iff_ne]
            rcases turn_ends ht1 with he | he
            · omega
            · omega, Bool.and_false]
      · cases h
    · cases h
  · cases h
theorem readFrom_com : ∀ (l : List Ev) (ts ts' : List Tr) (m : Nat), readFrom ts m l = some ts' → ∀ i, i < m → ts'.filter (comAt i) = ts.filter (comAt i)
  | [], ts, ts', m, h, i, _ => by
    injection h with h
    subst h
    rfl
  | e :: l, ts, ts', m, h, i, hi => by
    unfold readFrom at h
    rw [Option.bind_eq_some_iff] at h
    obtain ⟨t1, h1, h2⟩ := h
    rw [readFrom_com l t1 ts' (m + 1) h2 i (by omega), step_com h1 i hi]
theorem com_take {l : List Ev} (n : Nat) (hn : n ≤ l.length) (h : rightM l = true) (i : Nat) (hi : i < n) : (triesM l).filter (comAt i) = (triesM (l.take n)).filter (comAt i) := by
  unfold rightM at h
  unfold triesM
  unfold readM at *
  have h1 := readFrom_append (l.take n) (l.drop n) [] 0
  rw [List.take_append_drop] at h1
  cases hb : readFrom [] 0 (l.take n) with
  | none =>
    rw [hb] at h1
    rw [h1] at h
    cases h
  | some ts =>
    rw [hb] at h1
    simp only [Option.bind_some] at h1
    cases hl : readFrom ts (0 + (l.take n).length) (l.drop n) with
    | none =>
      rw [hl] at h1
      rw [h1] at h
      cases h
    | some ts' =>
      rw [hl] at h1
      rw [h1]
      exact readFrom_com _ _ _ _ hl i (by rw [List.length_take]; omega)
/-- Those that committed in a beginning. -/
theorem commits_begin {l : List Ev} (n : Nat) (hn : n ≤ l.length) (h : rightM l = true) : ∃ r, commitsM l = commitsM (l.take n) ++ r := by
  have e : commitsM (l.take n) = (List.range n).flatMap (fun i : Nat => (triesM l).filter (comAt i)) := by
    unfold commitsM
    rw [List.length_take, Nat.min_eq_left hn, List.flatMap_def, List.flatMap_def]
    congr 1
    apply List.map_congr_left
    intro i hi
    have hi' : i < n := by simpa using hi
    exact (com_take n hn h i hi').symm
  refine ⟨((List.range l.length).drop n).flatMap (fun i : Nat => (triesM l).filter (comAt i)), ?_⟩
  rw [e]
  have e2 : List.range n = (List.range l.length).take n := by
    rw [List.take_range, Nat.min_eq_left hn]
  rw [e2, ← List.flatMap_append, List.take_append_drop]
  rfl
end Go.Proofs.Ytjmnbbflahacoaa.Model
/- Two rows of states, held against each other. No condition. -/
namespace Go.Proofs.Ytjmnbbflahacoaa.Model
open Go.RowKit Go.Proofs.Ytjmnbbflahacoaa.Mem Go.Proofs.Ytjmnbbflahacoaa.Hist Go.Proofs.Ytjmnbbflahacoaa.PHistTells Go.Proofs.YtjmnbbflahacoaaW.PrintWords
set_option linter.unusedVariables false
set_option linter.unusedSimpArgs false

set_option maxHeartbeats 4000000 in
set_option maxRecDepth 100000 in
theorem lstates_any (w : World) (A B : Option Addr) (c d : Nat) (ss : List (List Int)) (hC : kS.C w A ss.length ss) (hD : kS.C w B ss.length ss) (hl : ss.length ≤ 1000000) (ha : ∀ s ∈ ss, s.length ≤ 1000000) :
    Calls Try.prog 34 #[.slice A ss.length c, .slice B ss.length d] w fun e w' => e = .returned (.bool true) ∧ Below w.heap.size w w' := by
  have HC := Veil.mk hC
  have HD := Veil.mk hD
  have HL := Veil.mk hl
  have HA := Veil.mk ha
  clear hC hD hl ha
  go_enter Try.func34, Try.ntmps34
  go_wp2_with fail
  go_loopw [5] (fun v5 wr => ∃ k : Nat, k ≤ ss.length ∧ v5 = .int .i64 k ∧ Veil (Below w.heap.size w wr)) (fun v5 _ => ss.length - (intOf v5).toNat)
  case atStart => exact ⟨0, Nat.zero_le _, rfl, ⟨Below.refl _ _⟩⟩
  case round =>
    obtain ⟨k, hk, rfl, HB⟩ := hrel
    have hl := HL.out
    by_cases hlt : k < ss.length
    · have d1 : decide ((k : Int) < (ss.length : Int)) = true := decide_eq_true (by omega)
      have d2 : (k : Int) < (ss.length : Int) := by omega
      obtain ⟨ad, Ak, ck, rfl, p0, _, hp⟩ := sts_at (Kd.C_below HC.out HB.out) k hlt
      obtain ⟨be, Bk, ek, rfl, q0, _, hq⟩ := sts_at (Kd.C_below HD.out HB.out) k hlt
      have HLA := Veil.mk (HA.out ss[k] (List.getElem_mem hlt))
      obtain ⟨s, hs⟩ : ∃ s, ss[k] = s := ⟨_, rfl⟩
      rw [hs] at p0 q0 hp hq HLA
      have HP := Veil.mk (Kd.C_below hp ((Below.refl wr.heap.size wr).drew))
      have HQ := Veil.mk (Kd.C_below hq ((Below.refl wr.heap.size wr).drew))
      have HV : Veil (Calls Try.prog 31 #[.slice Ak s.length ck, .slice Bk s.length ek] wr.drew fun e w' => e = .returned (.bool true) ∧ Below wr.drew.heap.size wr.drew w') :=
        ⟨(vals_any wr.drew Ak Bk ck ek s s HP.out HQ.out HLA.out HLA.out).mono (fun e w' h => ⟨by rw [h.1]; simp, h.2⟩)⟩
      clear hs hp hq
      go_wp2_with fail
      go_cut [26] (fun s26 wx => s26 = .bool false ∧ Veil (Below wr.heap.size wr wx))
      case first =>
        go_region_with (go_at_call 31; refine HV.out.mono ?_; rintro ed w4 ⟨rfl, hb⟩)
        all_goals
          go_wp2_with fail
          go_meet
          case rel => exact ⟨rfl, ⟨((Below.refl _ _).drew).trans ‹_›⟩⟩
      case rest =>
        obtain ⟨rfl, HX⟩ := hcut
        have HB4 := Veil.mk (HB.out.trans (HX.out.mono HB.out.size))
        clear p0 q0
        go_wp2
        exact ⟨⟨k + 1, by omega, by go_num, HB4⟩, by simp [intOf]; omega⟩
    · have d1 : decide ((k : Int) < (ss.length : Int)) = false := decide_eq_false (by omega)
      go_wp2
      go_ret
      exact ⟨rfl, HB.out⟩

theorem stsM_length (first : List Int) (l : List Ev) : (stsM first l).length = (commitsM l).length + 1 := stsUpTo_length _ _ _
theorem stsM_each (first : List Int) (l : List Ev) : ∀ s ∈ stsM first l, s.length = first.length := by
  intro s hs
  unfold stsM stsUpTo at hs
  rcases List.mem_cons.1 hs with rfl | hs
  · rfl
  · obtain ⟨i, _, rfl⟩ := List.mem_map.1 hs
    exact foldM_length _ _
theorem commitsM_length (l : List Ev) (h : rightM l = true) : (commitsM l).length = beforeM l l.length := by
  obtain ⟨cs, hcs⟩ : ∃ cs, CommitsOf l cs := ⟨(ended l).mergeSort (fun a b => decide (a.f5 ≤ b.f5)), List.mergeSort_perm _ _, by
    have := List.pairwise_mergeSort (le := fun a b : Tr => decide (a.f5 ≤ b.f5)) (by intro a b c; simp; omega) (by intro a b; simp; omega) (ended l)
    exact this.imp (fun h => by simpa using h)⟩
  rw [← commits_is hcs, hcs.perm.length_eq]
  exact committed_count h
theorem sts_begin {l : List Ev} (first : List Int) (n : Nat) (hn : n ≤ l.length) (h : rightM l = true) : (stsM first (l.take n)).length ≤ (stsM first l).length ∧ (stsM first l).take (stsM first (l.take n)).length = stsM first (l.take n) := by
  obtain ⟨r, hr⟩ := commits_begin n hn h
  rw [stsM_length, stsM_length, hr, List.length_append]
  refine ⟨by omega, ?_⟩
  unfold stsM stsUpTo
  rw [List.take_succ_cons]
  congr 1
  rw [← List.map_take, List.take_range, hr, List.length_append, Nat.min_eq_left (by omega)]
  apply List.map_congr_left
  intro i hi
  have hi' : i < (commitsM (l.take n)).length := by simpa using hi
  rw [List.take_append_of_le_length (by omega)]
end Go.Proofs.Ytjmnbbflahacoaa.Model
