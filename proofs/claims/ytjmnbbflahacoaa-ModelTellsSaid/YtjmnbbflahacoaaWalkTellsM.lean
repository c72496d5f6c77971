/- ModelTells's walk: true for all values and every trace. No condition. -/
import Derived.Test.YtjmnbbflahacoaaRefS
import Derived.Test.YtjmnbbflahacoaaModS
import Derived.Test.YtjmnbbflahacoaaLate
namespace Go.Proofs.Ytjmnbbflahacoaa.Model
open Go.RowKit Go.Proofs.Ytjmnbbflahacoaa.Mem Go.Proofs.Ytjmnbbflahacoaa.Hist Go.Proofs.Ytjmnbbflahacoaa.PHistTells Go.Proofs.YtjmnbbflahacoaaW.PrintWords
set_option linter.unusedVariables false
set_option linter.unusedSimpArgs false

theorem ints_lt {w : World} {A : Option Addr} {xs : List Int} (h : kI.C w A xs.length xs) : ∀ ad, A = some ad → xs ≠ [] → ad.block < w.heap.size := by
  intro ad ha hs
  have hp := List.length_pos_iff.2 hs
  obtain ⟨a, e, h0⟩ := int_at h 0 hp
  rw [ha] at e
  injection e with e
  subst e
  have := World.block_lt_of_cell? w _ h0
  simpa [Addr.add] using this

/-- The last state. -/
theorem last_any (w : World) (A : Option Addr) (c : Nat) (l : List Ev) (Av : Option Addr) (cv : Nat) (first : List Int) (hC : kEv.C w A l.length l) (hl : l.length ≤ 1000) (hok : ∀ e ∈ l, EvOk e) (hF : kI.C w Av first.length first) (hfl : first.length ≤ 1000000) :
    Calls Try.prog 35 #[.slice Av first.length cv, .slice A l.length c] w
      fun e W' => ∃ B d s, e = .returned (.slice B s.length d) ∧ (stsM first l)[(commitsM l).length]? = some s ∧ kI.C W' B s.length s ∧ Below w.heap.size w W' := by
  have HST := Veil.mk (states_any w A c l Av cv first hC (by omega) hok hF hfl (fun t ht => Nat.le_trans (commitsM_acc l t ht) (by omega)))
  have HSL := Veil.mk (stsM_length first l)
  have HCL : Veil ((commitsM l).length ≤ 1000) := ⟨commitsM_short hl⟩
  obtain ⟨ss, hss⟩ : ∃ ss, stsM first l = ss := ⟨_, rfl⟩
  obtain ⟨n, hn⟩ : ∃ n, (commitsM l).length = n := ⟨_, rfl⟩
  rw [hss] at HST HSL ⊢
  rw [hn] at HSL HCL ⊢
  clear hC hok hF hfl hss hn hl
  go_enter Try.func35, Try.ntmps35
  go_wp2_with (first | (go_at_call 33; go_must (refine HST.out.mono ?_; rintro ed w2 ⟨v, rfl, hv, hb⟩; obtain ⟨g, c1, Ak, ck, rfl, z0, _, y0, _, _⟩ := sts_own hv n (by have := HSL.out; omega); have HY := Veil.mk y0; have HB := Veil.mk hb; have hi : (ss.length : Int) - 1 = (n : Int) := (by have := HSL.out; omega); have hj : n < ss.length := (by have := HSL.out; omega); have hw1 : IntKind.i64.wrap ((ss.length : Int) - 1) = (n : Int) := (by rw [hi]; exact IntWalk.i64_in _ (by have := HCL.out; omega)); have hj2 : (n : Int) < (ss.length : Int) := (by omega); have HG : Veil (ss[n]? = some ss[n]) := ⟨List.getElem?_eq_getElem hj⟩; have hl1 : 1 ≤ ss.length := (by omega); have hl2 : ss.length ≤ 1001 := (by have := HSL.out; have := HCL.out; omega); clear hv hb y0)))
  go_ret
  exact ⟨_, _, _, rfl, HG.out, HY.out, HB.out⟩

/-- A row of rows of m numbers each, all the call's own, whatever the numbers are. -/
structure Spoil (W : World) (base : Nat) (g n m : Nat) : Prop where
  rows : ∀ i, i < n → ∃ (A : Option Addr) (c : Nat) (xs : List Int), W.cell? ⟨g, i, none⟩ = some (.slice A m c) ∧ xs.length = m ∧ kI.R 2 W base (fun _ => True) (.slice A m c) xs
  typed : Typed W g 47
theorem Spoil.step {W W' : World} {base g n m : Nat} (h : Spoil W base g n m) (hb : Below W.heap.size W W') : Spoil W' base g n m := by
  refine ⟨fun i hi => ?_, ?_⟩
  · obtain ⟨A, c, xs, hc, hl, hR⟩ := h.rows i hi
    exact ⟨A, c, xs, (hb.cell (p := ⟨g, i, none⟩) (World.block_lt_of_cell? W _ hc)).trans hc, hl, Kd.R_below hR hb⟩
  · obtain ⟨cs, hcs⟩ := h.typed
    exact ⟨cs, (hb.block g (Array.getElem?_eq_some_iff.1 hcs).1).trans hcs⟩
theorem spoil_start {W : World} {base : Nat} {v : Value} {ss : List (List Int)} {m : Nat} (h : kS.R 47 W base (fun _ => True) v ss) (hm : ∀ s ∈ ss, s.length = m) (hp : 0 < ss.length) :
    ∃ g c, v = .slice (some ⟨g, 0, none⟩) ss.length c ∧ Spoil W base g ss.length m := by
  obtain ⟨g, c, A0, c0, rfl, _⟩ := sts_own h 0 hp
  refine ⟨g, c, rfl, fun i hi => ?_, row_typed h rfl⟩
  obtain ⟨g', c', Ai, ci, he, z, _, _, hR, _⟩ := sts_own h i hi
  injection he with he _ _
  injection he with he
  injection he with he _ _
  subst he
  have hl := hm ss[i] (List.getElem_mem hi)
  rw [hl] at z hR
  exact ⟨Ai, ci, ss[i], z, hl, hR⟩
theorem Spoil.cell {W : World} {base g n m : Nat} (h : Spoil W base g n m) (i k : Nat) (hi : i < n) (hk : k < m) :
    ∃ b c x, W.cell? ⟨g, i, none⟩ = some (.slice (some ⟨b, 0, none⟩) m c) ∧ W.cell? ⟨b, k, none⟩ = some (.int .i64 x) ∧ W.frozen? ⟨b, k, none⟩ = false ∧ base ≤ b ∧ ∀ y, Spoil (W.setCell ⟨b, k, none⟩ (.int .i64 y)) base g n m := by
  obtain ⟨A, c, xs, hc, hl, hR⟩ := h.rows i hi
  obtain ⟨b, cap, he, hb, _, _⟩ := Kd.R_form hR (by omega)
  injection he with e1 _ e3
  subst e1 e3
  obtain ⟨z, f⟩ := int_cell hR k (by omega)
  have hbT : Typed W b 2 := row_typed hR rfl
  have hne : g ≠ b := fun he => by
    have := h.typed.ne (by rw [he]; exact hbT)
    simp at this
  refine ⟨b, c, xs[k], hc, z, f, hb, fun y => ⟨fun j hj => ?_, ?_⟩⟩
  · obtain ⟨A', c', xs', hc', hl', hR'⟩ := h.rows j hj
    have hcell : (W.setCell ⟨b, k, none⟩ (.int .i64 y)).cell? ⟨g, j, none⟩ = some (.slice A' m c') :=
      (World.cell?_of_block (w := W) (a := ⟨g, j, none⟩) (Below.heap_setCell _ _ _ _ (by show g ≠ b; exact hne))).trans hc'
    obtain ⟨b', cap', he', _, _, _⟩ := Kd.R_form hR' (by omega)
    injection he' with e1 _ e3
    subst e1 e3
    by_cases hbb : b' = b
    · subst hbb
      have := R_set_int hR' (k : Int) y (by omega)
      rw [Int.toNat_natCast] at this
      exact ⟨_, _, _, hcell, by simpa using hl', this⟩
    · refine ⟨_, _, xs', hcell, hl', Kd.R_mono (Kd.R_far (p := ⟨b, k, none⟩) (Kd.R_tight (by rfl) hR') (fun q hq he => hbb ?_) _) (fun _ _ => trivial)⟩
      have hbq : q = b' := by simpa [Value.ownBlock] using hq
      rw [← hbq]
      exact he
  · obtain ⟨cs, hcs⟩ := h.typed
    exact ⟨cs, (Below.heap_setCell _ _ _ _ (by show g ≠ b; exact hne)).trans hcs⟩

set_option maxHeartbeats 16000000 in
set_option maxRecDepth 100000 in
theorem modelTells_any (w : World) (Av : Option Addr) (cv : Nat) (first : List Int) (A : Option Addr) (c : Nat) (l : List Ev) (hF : kI.C w Av first.length first) (hcv : first.length ≤ cv) (hC : kEv.C w A l.length l) (hc : l.length ≤ c) (hok : ∀ e ∈ l, EvOk e) :
    Calls Try.prog 9 #[.slice Av first.length cv, .slice A l.length c] w fun e w' => e = .returned (.bool true) ∧ Below w.heap.size w w' := by
  have HF := Veil.mk hF
  have HC := Veil.mk hC
  have HO := Veil.mk hok
  have HCC := Veil.mk hc
  have HCV := Veil.mk hcv
  have HLT := Veil.mk (ints_lt hF)
  clear hF hC hok hc hcv
  by_cases h120 : 120 < l.length
  · have g0 : decide ((120 : Int) < (l.length : Int)) = true := decide_eq_true (by omega)
    clear h120
    go_enter Try.func9, Try.ntmps9
    go_wp2_with (first | (go_at_call 29; refine (alive18_any _).mono ?_; rintro ed w1 ⟨rfl, hb⟩; have HB := Veil.mk hb; clear hb))
    go_ret
    exact ⟨rfl, HB.out⟩
  have g0 : decide ((120 : Int) < (l.length : Int)) = false := decide_eq_false (by omega)
  by_cases h20 : 20 < first.length
  · have g1 : decide ((20 : Int) < (first.length : Int)) = true := decide_eq_true (by omega)
    clear h120 h20
    go_enter Try.func9, Try.ntmps9
    go_wp2_with (first | (go_at_call 29; refine (alive18_any _).mono ?_; rintro ed w1 ⟨rfl, hb⟩; have HB := Veil.mk hb; clear hb))
    go_ret
    exact ⟨rfl, HB.out⟩
  have g1 : decide ((20 : Int) < (first.length : Int)) = false := decide_eq_false (by omega)
  have HL : Veil (l.length ≤ 120 ∧ first.length ≤ 20) := ⟨by omega⟩
  have hl1 : l.length ≤ 120 := by omega
  clear h120 h20
  have HSL := Veil.mk (stsM_length first l)
  have HSE := Veil.mk (stsM_each first l)
  have HCL : Veil ((commitsM l).length ≤ 1000) := ⟨commitsM_short (by have := HL.out; omega)⟩
  have HRS := Veil.mk (fun (W : World) (h : Below w.heap.size w W) => refstates_any W A c l Av cv first (Kd.C_below HC.out h) HCC.out (by have := HL.out; omega) (Kd.C_below HF.out h) HCV.out (by have := HL.out; omega) (fun ad ha hs => Nat.lt_of_lt_of_le (HLT.out ad ha hs) h.size))
  have HMS := Veil.mk (fun (W : World) (h : Below w.heap.size w W) => states_any W A c l Av cv first (Kd.C_below HC.out h) (by have := HL.out; omega) HO.out (Kd.C_below HF.out h) (by have := HL.out; omega) (fun t ht => Nat.le_trans (commitsM_acc l t ht) (by have := HL.out; omega)))
  have HLS := Veil.mk (fun (W : World) (h : Below w.heap.size w W) => last_any W A c l Av cv first (Kd.C_below HC.out h) (by have := HL.out; omega) HO.out (Kd.C_below HF.out h) (by have := HL.out; omega))
  obtain ⟨ss, hss⟩ : ∃ ss, stsM first l = ss := ⟨_, rfl⟩
  obtain ⟨n, hn⟩ : ∃ n, (commitsM l).length = n := ⟨_, rfl⟩
  rw [hss] at HSL HSE
  rw [hn] at HSL HCL
  rw [hss] at HRS HMS HLS
  rw [hn] at HLS
  clear hss hn
  have HSB : Veil (∀ s ∈ ss, s.length ≤ 1000000) := ⟨fun s hs => by rw [HSE.out s hs]; have := HL.out; omega⟩
  have HSN : Veil (ss.length ≤ 1000000) := ⟨by have := HSL.out; have := HCL.out; omega⟩
  go_enter Try.func9, Try.ntmps9
  go_wp2_with (first | (go_at_call 29; refine (alive18_any _).mono ?_; rintro ed w1 ⟨rfl, hb⟩; have HB := Veil.mk hb; clear hb) | (go_at_call 32; go_must (refine (HRS.out _ HB.out).mono ?_; rintro ed w2 ⟨B, d, rfl, hd, hk, hb⟩; have HB2 := Veil.mk (below_of HB.out hb); have HK2 := Veil.mk hk; clear hb hd hk)) | (go_at_call 33; go_must (refine (HMS.out _ HB2.out).mono ?_; rintro ed w3 ⟨v, rfl, hv, hb⟩; obtain ⟨g, c1, rfl, hsp⟩ := spoil_start (m := first.length) hv HSE.out (by have := HSL.out; omega); have hrd := (Kd.R_reads' hv).2.2; have HS3 := Veil.mk hrd; have HSP := Veil.mk hsp; have HBB := Veil.mk hb; have HB3 := Veil.mk (below_of HB2.out hb); have HK3 := Veil.mk (Kd.C_below HK2.out hb); clear hb hv hsp hrd)))
  obtain ⟨ad, Ak, ck, rfl, s0, _, hk⟩ := sts_at HK3.out n (by have := HSL.out; omega)
  have HKN := Veil.mk hk
  have hj : n < ss.length := by have := HSL.out; omega
  have HGN : Veil (ss[n]? = some ss[n]) := ⟨List.getElem?_eq_getElem hj⟩
  have HSNL : Veil (ss[n].length ≤ 1000000) := ⟨HSB.out _ (List.getElem_mem hj)⟩
  obtain ⟨sn, hsn⟩ : ∃ sn, ss[n] = sn := ⟨_, rfl⟩
  rw [hsn] at s0 HKN HGN HSNL
  clear hsn hk
  have hi : (ss.length : Int) - 1 = (n : Int) := by have := HSL.out; omega
  have hw1 : IntKind.i64.wrap (n : Int) = (n : Int) := IntWalk.i64_in _ (by have := HCL.out; omega)
  have hj2 : (n : Int) < (ss.length : Int) := by omega
  have hl2 : 1 ≤ ss.length := by omega
  have hl3 : ss.length ≤ 1001 := by have := HSL.out; have := HCL.out; omega
  refine wp_region_X (fun w' => w'.cell? (ad.add n) = some (.slice Ak sn.length ck)) [] (by kernel_rfl) ?_
  have hS0 : w3.drew.cell? (ad.add n) = some (.slice Ak sn.length ck) := s0
  refine wpAnyX_take3 (i := 0) (v := ?_) rfl (by kernel_rfl) (by kernel_rfl) (by kernel_rfl) (by kernel_rfl) (fun _ _ _ h => h) (Or.inl ⟨by rfl, ?_⟩) (by assumption) ?_
  rotate_left 1
  · intro w hSw; (try dsimp only at hSw); go_split_ands; (first | (go_simp; done) | (go_simp; with_reducible rfl))
  try simp only [Act.put, List.getElem_toArray, List.getElem_cons_zero, List.getElem_cons_succ, List.setIfInBounds_toArray, List.set_cons_zero, List.set_cons_succ]
  refine wpAnyX_take3 (i := 1) (v := ?_) rfl (by kernel_rfl) (by kernel_rfl) (by kernel_rfl) (by kernel_rfl) (fun _ _ _ h => h) (Or.inl ⟨by rfl, ?_⟩) (by assumption) ?_
  rotate_left 1
  · intro w hSw; (try dsimp only at hSw); go_split_ands; (first | (go_simp; done) | (go_simp; with_reducible rfl))
  try simp only [Act.put, List.getElem_toArray, List.getElem_cons_zero, List.getElem_cons_succ, List.setIfInBounds_toArray, List.set_cons_zero, List.set_cons_succ]
  have HX3 := Veil.mk ((Below.refl w3.heap.size w3).drew)
  refine wpAnyX_one (i := 2) (by kernel_rfl) rfl (fun K hK => ?_)
  go_simp
  refine (lstates_any _ _ _ c1 d ss (Kd.C_below HS3.out HX3.out) (Kd.C_below HK3.out HX3.out) HSN.out HSB.out).mono ?_
  rintro e1 w4 ⟨rfl, hb4⟩
  have HX4 := Veil.mk (HX3.out.trans hb4)
  have hS4 : w4.cell? (ad.add n) = some (.slice Ak sn.length ck) := (HX4.out.cell (p := ad.add n) (World.block_lt_of_cell? w3 _ s0)).trans s0
  clear hb4 hS0
  dsimp only
  refine hK.out _ _ (fun _ => hS4) ?_
  clear hK K
  try simp only [Act.put, List.getElem_toArray, List.getElem_cons_zero, List.getElem_cons_succ, List.setIfInBounds_toArray, List.set_cons_zero, List.set_cons_succ]
  refine wpAnyX_take3 (i := 3) (v := ?_) rfl (by kernel_rfl) (by kernel_rfl) (by kernel_rfl) (by kernel_rfl) (fun _ _ _ h => h) (Or.inl ⟨by rfl, ?_⟩) (by assumption) ?_
  rotate_left 1
  · intro w hSw; (try dsimp only at hSw); go_split_ands; (first | (go_simp; done) | (go_simp; with_reducible rfl))
  try simp only [Act.put, List.getElem_toArray, List.getElem_cons_zero, List.getElem_cons_succ, List.setIfInBounds_toArray, List.set_cons_zero, List.set_cons_succ]
  refine wpAnyX_take3 (i := 4) (v := ?_) rfl (by kernel_rfl) (by kernel_rfl) (by kernel_rfl) (by kernel_rfl) (fun _ _ _ h => h) (Or.inl ⟨by rfl, ?_⟩) (by assumption) ?_
  rotate_left 1
  · intro w hSw; (try dsimp only at hSw); go_split_ands; (first | (go_simp; done) | (go_simp; with_reducible rfl))
  try simp only [Act.put, List.getElem_toArray, List.getElem_cons_zero, List.getElem_cons_succ, List.setIfInBounds_toArray, List.set_cons_zero, List.set_cons_succ]
  refine wpAnyX_take3 (i := 5) (v := ?_) rfl (by kernel_rfl) (by kernel_rfl) (by kernel_rfl) (by kernel_rfl) (fun _ _ _ h => h) (Or.inl ⟨by rfl, ?_⟩) (by assumption) ?_
  rotate_left 1
  · intro w hSw; (try dsimp only at hSw); go_split_ands; (first | (go_simp; done) | (go_simp; with_reducible rfl))
  try simp only [Act.put, List.getElem_toArray, List.getElem_cons_zero, List.getElem_cons_succ, List.setIfInBounds_toArray, List.set_cons_zero, List.set_cons_succ]
  refine wpAnyX_take3 (i := 6) (v := ?_) rfl (by kernel_rfl) (by kernel_rfl) (by kernel_rfl) (by kernel_rfl) (fun _ _ _ h => h) (Or.inl ⟨by rfl, ?_⟩) (by assumption) ?_
  rotate_left 1
  · intro w hSw; (try dsimp only at hSw); go_split_ands; (first | (go_simp; done) | (go_simp; with_reducible rfl))
  try simp only [Act.put, List.getElem_toArray, List.getElem_cons_zero, List.getElem_cons_succ, List.setIfInBounds_toArray, List.set_cons_zero, List.set_cons_succ]
  refine wpAnyX_take3 (i := 8) (v := ?_) rfl (by kernel_rfl) (by kernel_rfl) (by kernel_rfl) (by kernel_rfl) (fun _ _ _ h => h) (Or.inl ⟨by rfl, ?_⟩) (by assumption) ?_
  rotate_left 1
  · intro w hSw; (try dsimp only at hSw); go_split_ands; (first | (go_simp; done) | (go_simp; with_reducible rfl))
  try simp only [Act.put, List.getElem_toArray, List.getElem_cons_zero, List.getElem_cons_succ, List.setIfInBounds_toArray, List.set_cons_zero, List.set_cons_succ]
  refine wpAnyX_take3 (i := 9) (v := ?_) rfl (by kernel_rfl) (by kernel_rfl) (by kernel_rfl) (by kernel_rfl) (fun _ _ _ h => h) (Or.inl ⟨by rfl, ?_⟩) (by assumption) ?_
  rotate_left 1
  · intro w hSw; (try dsimp only at hSw); go_split_ands; (first | (go_simp; done) | (go_simp; with_reducible rfl))
  try simp only [Act.put, List.getElem_toArray, List.getElem_cons_zero, List.getElem_cons_succ, List.setIfInBounds_toArray, List.set_cons_zero, List.set_cons_succ]
  refine wpAnyX_take3 (i := 10) (v := ?_) rfl (by kernel_rfl) (by kernel_rfl) (by kernel_rfl) (by kernel_rfl) (fun _ _ _ h => h) (Or.inl ⟨by rfl, ?_⟩) (by assumption) ?_
  rotate_left 1
  · intro w hSw; (try dsimp only at hSw); go_split_ands; (first | (go_simp; done) | (go_simp; with_reducible rfl))
  try simp only [Act.put, List.getElem_toArray, List.getElem_cons_zero, List.getElem_cons_succ, List.setIfInBounds_toArray, List.set_cons_zero, List.set_cons_succ]
  refine wpAnyX_take3 (i := 11) (v := ?_) rfl (by kernel_rfl) (by kernel_rfl) (by kernel_rfl) (by kernel_rfl) (fun _ _ _ h => h) (Or.inl ⟨by rfl, ?_⟩) (by assumption) ?_
  rotate_left 1
  · intro w hSw; (try dsimp only at hSw); go_split_ands; (first | (go_simp; done) | (go_simp; with_reducible rfl))
  try simp only [Act.put, List.getElem_toArray, List.getElem_cons_zero, List.getElem_cons_succ, List.setIfInBounds_toArray, List.set_cons_zero, List.set_cons_succ]
  refine wpAnyX_take3 (i := 12) (v := ?_) rfl (by kernel_rfl) (by kernel_rfl) (by kernel_rfl) (by kernel_rfl) (fun _ _ _ h => h) (Or.inl ⟨by rfl, ?_⟩) (by assumption) ?_
  rotate_left 1
  · intro w hSw; (try dsimp only at hSw); go_split_ands; (first | (go_simp; done) | (go_simp; with_reducible rfl))
  try simp only [Act.put, List.getElem_toArray, List.getElem_cons_zero, List.getElem_cons_succ, List.setIfInBounds_toArray, List.set_cons_zero, List.set_cons_succ]
  refine wpAnyX_take3 (i := 13) (v := ?_) rfl (by kernel_rfl) (by kernel_rfl) (by kernel_rfl) (by kernel_rfl) (fun _ _ _ h => h) (Or.inl ⟨by rfl, ?_⟩) (by assumption) ?_
  rotate_left 1
  · intro w hSw; (try dsimp only at hSw); go_split_ands; (first | (go_simp; done) | (go_simp; with_reducible rfl))
  try simp only [Act.put, List.getElem_toArray, List.getElem_cons_zero, List.getElem_cons_succ, List.setIfInBounds_toArray, List.set_cons_zero, List.set_cons_succ]
  refine wpAnyX_one (i := 7) (by kernel_rfl) rfl (fun K hK => ?_)
  go_simp
  refine (HLS.out _ (HB3.out.trans (HX4.out.mono HB3.out.size))).mono ?_
  rintro e1 w5 ⟨B5, d5, s5, rfl, hs5, hk5, hb5⟩
  rw [HGN.out] at hs5
  injection hs5 with hs5
  subst hs5
  have HX5 := Veil.mk (below_of HX4.out hb5)
  have hS5 : w5.cell? (ad.add n) = some (.slice Ak sn.length ck) := (hb5.cell (p := ad.add n) (World.block_lt_of_cell? w4 _ hS4)).trans hS4
  have HK5 := Veil.mk hk5
  clear hb5 hS4 hk5
  dsimp only
  refine hK.out _ _ (fun _ => hS5) ?_
  clear hK K
  try simp only [Act.put, List.getElem_toArray, List.getElem_cons_zero, List.getElem_cons_succ, List.setIfInBounds_toArray, List.set_cons_zero, List.set_cons_succ]
  refine wpAnyX_one (i := 14) (by kernel_rfl) rfl (fun K hK => ?_)
  go_simp
  refine (vals_any _ B5 Ak d5 ck sn sn HK5.out (Kd.C_below HKN.out HX5.out) HSNL.out HSNL.out).mono ?_
  rintro e1 w6 ⟨rfl, hb6⟩
  rw [decide_eq_true (rfl : sn = sn)]
  have HX6 := Veil.mk (below_of HX5.out hb6)
  have hS6 : w6.cell? (ad.add n) = some (.slice Ak sn.length ck) := (hb6.cell (p := ad.add n) (World.block_lt_of_cell? w5 _ hS5)).trans hS5
  clear hb6 hS5
  dsimp only
  refine hK.out _ _ (fun _ => hS6) ?_
  clear hK K
  try simp only [Act.put, List.getElem_toArray, List.getElem_cons_zero, List.getElem_cons_succ, List.setIfInBounds_toArray, List.set_cons_zero, List.set_cons_succ]
  refine wpAnyX_one (i := 15) (by kernel_rfl) rfl (fun K hK => ?_)
  go_simp
  refine hK.out _ _ (fun _ => hS6) ?_
  clear hK K
  try simp only [Act.put, List.getElem_toArray, List.getElem_cons_zero, List.getElem_cons_succ, List.setIfInBounds_toArray, List.set_cons_zero, List.set_cons_succ]
  refine wpAnyX_one (i := 16) (by kernel_rfl) rfl (fun K hK => ?_)
  go_simp
  refine hK.out _ _ (fun _ => hS6) ?_
  clear hK K
  refine wpAnyX_done (by kernel_rfl) ?_ _
  have HSP6 := Veil.mk (HSP.out.step HX6.out)
  have HBB6 := Veil.mk (HBB.out.trans (HX6.out.mono HBB.out.size))
  clear s0 hS6 hw1 hi hj hj2
  go_wp2_with fail
  go_loopw [7, 8] (fun v7 _ wr => ∃ i : Nat, i ≤ ss.length ∧ v7 = .int .i64 i ∧ Veil (Spoil wr w2.heap.size g ss.length first.length) ∧ Veil (Below w2.heap.size w2 wr)) (fun v7 _ _ => ss.length - (intOf v7).toNat)
  case atStart => exact ⟨0, Nat.zero_le _, rfl, HSP6, HBB6⟩
  case round =>
    obtain ⟨i, hi, rfl, HP, HW⟩ := hrel
    have hf20 : first.length ≤ 20 := HL.out.2
    by_cases hlt : i < ss.length
    · as_aux_lemma =>
      have d1 : decide ((i : Int) < (ss.length : Int)) = true := decide_eq_true (by omega)
      have d2 : (i : Int) < (ss.length : Int) := by omega
      go_wp2_with fail
      go_loopw [8] (fun v8 wx => ∃ k : Nat, k ≤ first.length ∧ v8 = .int .i64 k ∧ Veil (Spoil wx w2.heap.size g ss.length first.length) ∧ Veil (Below w2.heap.size w2 wx)) (fun v8 _ => first.length - (intOf v8).toNat)
      case atStart => exact ⟨0, Nat.zero_le _, rfl, HP, HW⟩
      case round =>
        obtain ⟨k, hk, rfl, HPx, HWx⟩ := hrel
        obtain ⟨Ai, ci, xi, z0, _, _⟩ := HPx.out.rows i hlt
        by_cases hkl : k < first.length
        · clear z0
          obtain ⟨b, cb, x, z0, z1, f1, hb, hset⟩ := HPx.out.cell i k hlt hkl
          have e1 : decide ((k : Int) < (first.length : Int)) = true := decide_eq_true (by omega)
          have e2 : (k : Int) < (first.length : Int) := by omega
          have HS := Veil.mk hset
          have HBL := Veil.mk hb
          clear hset hb
          go_wp2
          exact ⟨⟨k + 1, by omega, by go_num, ⟨HS.out _⟩, ⟨HWx.out.setCell (p := ⟨b, k, none⟩) HBL.out _⟩⟩, by simp [intOf]; omega⟩
        · have e1 : decide ((k : Int) < (first.length : Int)) = false := decide_eq_false (by omega)
          go_wp2
          exact ⟨⟨i + 1, by omega, by go_num, HPx, HWx⟩, by simp [intOf]; omega⟩
    · as_aux_lemma =>
      have d1 : decide ((i : Int) < (ss.length : Int)) = false := decide_eq_false (by omega)
      have HWW := Veil.mk (below_of HB2.out HW.out)
      have HKW := Veil.mk (Kd.C_below HK2.out HW.out)
      go_wp2_with (first | (go_at_call 33; go_must (refine (HMS.out _ HWW.out).mono ?_; rintro ed w7 ⟨v, rfl, hv, hb⟩; have hrd := Kd.R_reads hv; obtain ⟨A7, c7, rfl, _, hC7⟩ := hrd; have HC7 := Veil.mk hC7; have HB7 := Veil.mk (below_of HWW.out hb); have HK7 := Veil.mk (Kd.C_below HKW.out hb); clear hb hv hC7)) | (go_at_call 34; go_must (refine (lstates_any _ _ _ c7 d ss HC7.out HK7.out HSN.out HSB.out).mono ?_; rintro ed w8 ⟨rfl, hb⟩; have HB8 := Veil.mk (below_of HB7.out hb); clear hb)))
      go_ret
      exact ⟨rfl, HB8.out⟩
end Go.Proofs.Ytjmnbbflahacoaa.Model
