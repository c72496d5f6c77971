/- model, fourth part: the references' Vals; the document's example. No condition. -/
import Derived.Test.YtjmnbbflahacoaaModelC
namespace Go.Proofs.Ytjmnbbflahacoaa.Model
open Go.RowKit Go.ChangeMaps Go.Maps Go.Proofs.Ytjmnbbflahacoaa.Mem Go.Proofs.Ytjmnbbflahacoaa.Hist Go.Proofs.Ytjmnbbflahacoaa.PHistTells Go.Proofs.YtjmnbbflahacoaaW.PrintWords
set_option linter.unusedVariables false
set_option linter.unusedSimpArgs false

theorem readFrom_acc : ∀ (l : List Ev) (ts ts' : List Tr) (i n : Nat), ts.length ≤ n → (∀ t ∈ ts, t.f8.length ≤ n) → readFrom ts i l = some ts' → ∀ t ∈ ts', t.f8.length ≤ n + l.length
  | [], ts, ts', i, n, _, ha, h => by
    injection h with h
    subst h
    exact ha
  | e :: l, ts, ts', i, n, hn, ha, h => by
    unfold readFrom at h
    rw [Option.bind_eq_some_iff] at h
    obtain ⟨t1, h1, h2⟩ := h
    obtain ⟨b1, b2⟩ := stepM_bounds h1 hn ha
    have := readFrom_acc l t1 ts' (i + 1) (n + 1) b1 b2 h2
    intro t ht
    have := this t ht
    rw [List.length_cons]
    omega
theorem triesM_acc (l : List Ev) : ∀ t ∈ triesM l, t.f8.length ≤ l.length := by
  unfold triesM
  cases h : readM l with
  | none => intro t ht; simp at ht
  | some ts =>
    have := readFrom_acc l [] ts 0 0 (Nat.le_refl _) (by simp) h
    simpa using this
theorem commitsM_acc (l : List Ev) : ∀ t ∈ commitsM l, t.f8.length ≤ l.length := by
  intro t ht
  unfold commitsM at ht
  obtain ⟨i, _, hi⟩ := List.mem_flatMap.1 ht
  exact triesM_acc l t (List.mem_filter.1 hi).1

theorem int_at {w : World} {A : Option Addr} {xs : List Int} (h : kI.C w A xs.length xs) (k : Nat) (hk : k < xs.length) : ∃ ad, A = some ad ∧ w.cell? (ad.add k) = some (.int .i64 xs[k]) := by
  obtain ⟨ad, c, e, _, hK, hc0⟩ := Kd.C_get h 0 (k : Int) (by omega) (by omega)
  have hx : xs.getD (k : Int).toNat 0 = xs[k] := by simp [List.getD, hk]
  rw [hx] at hK
  have hK' : c = [.int .i64 xs[k]] := hK
  subst hK'
  have := hc0 0 _ rfl
  refine ⟨ad, e, ?_⟩
  have e1 : (k : Int).toNat * kI.sz + 0 = k := by show (k : Int).toNat * 1 + 0 = k; omega
  rwa [e1] at this

set_option maxHeartbeats 1600000 in
set_option maxRecDepth 100000 in
theorem vals_any (w : World) (A B : Option Addr) (c d : Nat) (xs ys : List Int) (hC : kI.C w A xs.length xs) (hD : kI.C w B ys.length ys) (hl : xs.length ≤ 1000000) (hm : ys.length ≤ 1000000) :
    Calls Try.prog 31 #[.slice A xs.length c, .slice B ys.length d] w fun e w' => e = .returned (.bool (decide (xs = ys))) ∧ Below w.heap.size w w' := by
  have HC := Veil.mk hC
  have HD := Veil.mk hD
  clear hC hD
  by_cases he : xs.length = ys.length
  · have d0 : ((xs.length : Int) != (ys.length : Int)) = false := by rw [he]; simp
    rw [← he] at HD ⊢
    have HE := Veil.mk he
    clear he hm d0
    go_enter Try.func31, Try.ntmps31
    go_wp2_with fail
    go_loopw [5] (fun v5 wr => ∃ k : Nat, k ≤ xs.length ∧ v5 = .int .i64 k ∧ Veil (xs.take k = ys.take k) ∧ Veil (Below w.heap.size w wr)) (fun v5 _ => xs.length - (intOf v5).toNat)
    case atStart => exact ⟨0, Nat.zero_le _, rfl, ⟨by simp⟩, ⟨Below.refl _ _⟩⟩
    case round =>
      obtain ⟨k, hk, rfl, HT, HB⟩ := hrel
      by_cases hlt : k < xs.length
      · have hlt' : k < ys.length := by have := HE.out; omega
        have d1 : decide ((k : Int) < (xs.length : Int)) = true := decide_eq_true (by omega)
        have d2 : (k : Int) < (xs.length : Int) := by omega
        have hD' := Kd.C_below HD.out HB.out
        rw [HE.out] at hD'
        obtain ⟨ad, rfl, x0⟩ := int_at (Kd.C_below HC.out HB.out) k hlt
        obtain ⟨be, rfl, y0⟩ := int_at hD' k hlt'
        have HX := Veil.mk (show xs.take (k + 1) = xs.take k ++ [xs[k]] from List.take_succ_eq_append_getElem hlt)
        have HY := Veil.mk (show ys.take (k + 1) = ys.take k ++ [ys[k]] from List.take_succ_eq_append_getElem hlt')
        have HN : Veil (xs[k] ≠ ys[k] → decide (xs = ys) = false) := ⟨fun h => decide_eq_false (fun h' => h (by subst h'; rfl))⟩
        obtain ⟨x, hx⟩ : ∃ x, xs[k] = x := ⟨_, rfl⟩
        obtain ⟨y, hy⟩ : ∃ y, ys[k] = y := ⟨_, rfl⟩
        rw [hx] at x0 HX HN
        rw [hy] at y0 HY HN
        clear hx hy hD'
        by_cases hxy : x = y
        · subst hxy
          go_wp2_with fail
          go_quiet (fail)
          go_wp2
          exact ⟨⟨k + 1, by omega, by go_num, ⟨by rw [HX.out, HY.out, HT.out]⟩, ⟨HB.out.drewN _⟩⟩, by simp [intOf]; omega⟩
        · have m0 : (x != y) = true := by simp [hxy]
          have HF := Veil.mk (HN.out hxy)
          clear hxy
          go_wp2_with fail
          go_quiet (fail)
          go_wp2
          go_ret
          exact ⟨by rw [HF.out]; rfl, HB.out.drewN _⟩
      · have d1 : decide ((k : Int) < (xs.length : Int)) = false := decide_eq_false (by omega)
        have HF : Veil (decide (xs = ys) = true) := ⟨decide_eq_true (by have h := HT.out; have := HE.out; rwa [List.take_of_length_le (by omega), List.take_of_length_le (by omega)] at h)⟩
        go_wp2
        go_ret
        exact ⟨by rw [HF.out]; rfl, HB.out⟩
  · have d0 : (xs.length != ys.length) = true := by simp; omega
    have hn : decide (xs = ys) = false := decide_eq_false (fun h => he (by rw [h]))
    go_enter Try.func31, Try.ntmps31
    go_wp2
    go_ret
    exact ⟨by rw [hn]; rfl, Below.refl _ _⟩

def exW : List Ev := [⟨1, 0, 0, 1, 0, 0, 0⟩, ⟨3, 0, 0, 1, 0, 7, 0⟩, ⟨5, 0, 0, 1, 0, 0, 0⟩]
theorem exW_ok : ∀ e ∈ exW, EvOk e := by
  intro e he
  simp only [exW, List.mem_cons, List.not_mem_nil, or_false] at he
  rcases he with rfl | rfl | rfl <;> exact ⟨by decide, by decide⟩
theorem exW_states : stsM [5] exW = [[5], [7]] := by rfl
theorem int_lit {w : World} {b T : Nat} {x : Int} (h : Blk w b T [.int .i64 x]) : kI.C w (some ⟨b, 0, none⟩) 1 [x] := by
  refine ⟨rfl, by omega, fun _ => ⟨⟨b, 0, none⟩, rfl, fun j p hj => ?_⟩⟩
  have h0 : j = 0 := by have := (List.getElem?_eq_some_iff.1 hj).1; simp at this; omega
  subst h0
  simp only [List.getElem?_cons_zero, Option.some.injEq] at hj
  subst hj
  refine ⟨[.int .i64 x], rfl, rfl, fun i u hi => ?_⟩
  have h1 : i = 0 := by have := (List.getElem?_eq_some_iff.1 hi).1; simp at this; omega
  subst h1
  have := h.cell 0 u hi
  simpa [Addr.add] using this
/-- A row's row: its cell, and its numbers. -/
theorem sts_at {w : World} {A : Option Addr} {ss : List (List Int)} (h : kS.C w A ss.length ss) (k : Nat) (hk : k < ss.length) : ∃ ad Ak ck, A = some ad ∧ w.cell? (ad.add k) = some (.slice Ak ss[k].length ck) ∧ ss[k].length ≤ ck ∧ kI.C w Ak ss[k].length ss[k] := by
  obtain ⟨ad, c, e, _, hK, hc0⟩ := Kd.C_get h [] (k : Int) (by omega) (by omega)
  have hx : ss.getD (k : Int).toNat [] = ss[k] := by simp [List.getD, hk]
  rw [hx] at hK
  obtain ⟨Ak, ck, rfl, hl, hC⟩ := hK
  have := hc0 0 _ rfl
  have e1 : (k : Int).toNat * kS.sz + 0 = k := by show (k : Int).toNat * 1 + 0 = k; omega
  rw [e1] at this
  exact ⟨ad, Ak, ck, e, this, hl, hC⟩

theorem sts_own {w : World} {base : Nat} {v : Value} {ss : List (List Int)} (h : kS.R 47 w base (fun _ => True) v ss) (k : Nat) (hk : k < ss.length) :
    ∃ g c Ak ck, v = .slice (some ⟨g, 0, none⟩) ss.length c ∧ w.cell? ⟨g, k, none⟩ = some (.slice Ak ss[k].length ck) ∧ ss[k].length ≤ ck ∧ kI.C w Ak ss[k].length ss[k] ∧ kI.R 2 w base (fun _ => True) (.slice Ak ss[k].length ck) ss[k] ∧ base ≤ g := by
  obtain ⟨g, cap, hv, hg, _, _⟩ := Kd.R_form h (by omega)
  subst hv
  obtain ⟨cs, hcl, hM, hcc, hfr⟩ := Kd.R_elem h [] (k : Int) (by omega) (by omega)
  simp only [Int.toNat_natCast, List.getD_eq_getElem?_getD, List.getElem?_eq_getElem hk, Option.getD_some] at hM hcc
  obtain ⟨vk, rfl, hR⟩ := hM
  obtain ⟨Ak, ck, rfl, hl, hC⟩ := Kd.R_reads hR
  have := hcc 0 _ rfl
  have e1 : k * kS.sz + 0 = k := by show k * 1 + 0 = k; omega
  rw [e1] at this
  exact ⟨g, cap, Ak, ck, rfl, this, hl, hC, Kd.R_mono hR (fun _ _ => trivial), hg⟩

theorem vals_lit (w : World) (A : Option Addr) (c : Nat) (x : Int) (hC : kI.C w A 1 [x]) :
    Calls Try.prog 31 #[.slice A 1 c, .slice (some ⟨w.heap.size, 0, none⟩) 1 1] (w.alloc (.cells #[.int .i64 x] 2)) fun e w' => e = .returned (.bool true) ∧ Below w.heap.size w w' := by
  have h := vals_any (w.alloc (.cells #[.int .i64 x] 2)) A (some ⟨w.heap.size, 0, none⟩) c 1 [x] [x] (Kd.C_below hC ((Below.refl _ _).alloc (Nat.le_refl _) _)) (int_lit (Blk.new w _ _)) (by simp) (by simp)
  refine h.mono ?_
  rintro e w' ⟨rfl, hb⟩
  exact ⟨by simp, below_of ((Below.refl _ _).alloc (Nat.le_refl _) _) hb⟩

set_option maxHeartbeats 1600000 in
set_option maxRecDepth 100000 in
theorem alive18_any (w : World) : Calls Try.prog 29 #[] w fun e w' => e = .returned (.bool true) ∧ Below w.heap.size w w' := by
  have hb : Below w.heap.size w ((w.alloc (.cells #[.int .i64 1, .int .i64 0, .int .i64 0, .int .i64 1, .int .i64 0, .int .i64 0, .int .i64 0, .int .i64 3, .int .i64 0, .int .i64 0, .int .i64 1, .int .i64 0, .int .i64 7, .int .i64 0, .int .i64 5, .int .i64 0, .int .i64 0, .int .i64 1, .int .i64 0, .int .i64 0, .int .i64 0] 31)).alloc (.cells #[.int .i64 5] 2)) := ((Below.refl _ _).alloc (Nat.le_refl _) _).alloc (by simp) _
  have hC := Kd.C_below (ev_lit (l := exW) (Blk.new w #[.int .i64 1, .int .i64 0, .int .i64 0, .int .i64 1, .int .i64 0, .int .i64 0, .int .i64 0, .int .i64 3, .int .i64 0, .int .i64 0, .int .i64 1, .int .i64 0, .int .i64 7, .int .i64 0, .int .i64 5, .int .i64 0, .int .i64 0, .int .i64 1, .int .i64 0, .int .i64 0, .int .i64 0] 31) (by decide)) ((Below.refl _ _).alloc (Nat.le_refl _) (.cells #[.int .i64 5] 2))
  have hF := Blk.new (w.alloc (.cells #[.int .i64 1, .int .i64 0, .int .i64 0, .int .i64 1, .int .i64 0, .int .i64 0, .int .i64 0, .int .i64 3, .int .i64 0, .int .i64 0, .int .i64 1, .int .i64 0, .int .i64 7, .int .i64 0, .int .i64 5, .int .i64 0, .int .i64 0, .int .i64 1, .int .i64 0, .int .i64 0, .int .i64 0] 31)) #[.int .i64 5] 2
  rw [World.size_alloc] at hF
  have HC := Veil.mk hC
  have HF := Veil.mk (int_lit hF)
  have HB := Veil.mk hb
  clear hb hC hF
  go_enter Try.func29, Try.ntmps29
  go_wp2_with (first | (go_at_call 33; go_must (refine (states_any _ (some ⟨w.heap.size, 0, none⟩) 3 exW (some ⟨w.heap.size + 1, 0, none⟩) 1 [5] HC.out (by decide) exW_ok HF.out (by decide) (fun t ht => Nat.le_trans (commitsM_acc exW t ht) (by decide))).mono ?_; rintro ed w2 ⟨v, rfl, hv, hb⟩; rw [exW_states] at hv; have HB2 := Veil.mk (below_of HB.out hb); clear hb; obtain ⟨g, c1, A2, c2, rfl, z0, _, y0, _, _⟩ := sts_own hv 0 (by decide); obtain ⟨g', c1', A3, c3, he, z1, _, y1, _, _⟩ := sts_own hv 1 (by decide); injection he with he _ _; injection he with he; injection he with he _ _; subst he; have HY0 := Veil.mk y0; have HY1 := Veil.mk y1; clear y0 y1 hv)) | (go_at_call 31; with_reducible refine (vals_lit _ A2 c2 5 HY0.out).mono ?_; go_must (rintro ed w3 ⟨rfl, hb⟩; have HB3 := Veil.mk (below_of HB2.out hb); have z1' := (hb.cell (p := ⟨g, 1, none⟩) (World.block_lt_of_cell? w2 _ z1)).trans z1; have HY13 := Veil.mk (Kd.C_below HY1.out hb); clear hb)) | (go_at_call 31; with_reducible refine (vals_lit _ A3 c3 7 HY13.out).mono ?_; go_must (rintro ed w4 ⟨rfl, hb⟩; have HB4 := Veil.mk (below_of HB3.out hb); clear hb)))
  go_ret
  exact ⟨rfl, HB4.out⟩
end Go.Proofs.Ytjmnbbflahacoaa.Model
