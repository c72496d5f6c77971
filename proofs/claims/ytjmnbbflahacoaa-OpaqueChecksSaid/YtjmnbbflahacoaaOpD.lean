/- opaque: the law's example. No condition. -/
import Derived.Test.YtjmnbbflahacoaaOpC
namespace Go.Proofs.Ytjmnbbflahacoaa.Opq
open Go.RowKit Go.Proofs.Ytjmnbbflahacoaa.Mem Go.Proofs.Ytjmnbbflahacoaa.Hist Go.Proofs.Ytjmnbbflahacoaa.Model Go.Proofs.Ytjmnbbflahacoaa.PHistTells Go.Proofs.YtjmnbbflahacoaaW.PrintWords
set_option linter.unusedVariables false
set_option linter.unusedSimpArgs false

set_option maxHeartbeats 1600000 in
set_option maxRecDepth 100000 in
theorem oints_any (w : World) (A B : Option Addr) (c d : Nat) (xs ys : List Int) (hC : kI.C w A xs.length xs) (hD : kI.C w B ys.length ys) (hl : xs.length ≤ 1000000) (hm : ys.length ≤ 1000000) :
    Calls Try.prog 48 #[.slice A xs.length c, .slice B ys.length d] w fun e w' => e = .returned (.bool (decide (xs = ys))) ∧ Below w.heap.size w w' := by
  have HC := Veil.mk hC
  have HD := Veil.mk hD
  clear hC hD
  by_cases he : xs.length = ys.length
  · have d0 : ((xs.length : Int) != (ys.length : Int)) = false := by rw [he]; simp
    rw [← he] at HD ⊢
    have HE := Veil.mk he
    clear he hm d0
    go_enter Try.func48, Try.ntmps48
    go_wp2_with fail
    go_loopw [5] (fun v5 wr => ∃ k : Nat, k ≤ xs.length ∧ v5 = .int .i64 k ∧ Veil (xs.take k = ys.take k) ∧ Veil (Below w.heap.size w wr)) (fun v5 _ => xs.length - (intOf v5).toNat)
    case atStart => exact ⟨0, Nat.zero_le _, rfl, ⟨by simp⟩, ⟨Below.refl _ _⟩⟩
    case round =>
      obtain ⟨k, hk, rfl, HT, HB⟩ := hrel
      by_cases hlt : k < xs.length
      · have hlt' : k < ys.length := by have := HE.out; omega
        have d1 : decide ((k : Int) < (xs.length : Int)) = true := decide_eq_true (by omega)
        have d2 : (k : Int) < (xs.length : Int) := by omega
        have hD' := Kd.C_below HD.out HB.out
        rw [HE.out] at hD'
        obtain ⟨ad, rfl, x0⟩ := int_at (Kd.C_below HC.out HB.out) k hlt
        obtain ⟨be, rfl, y0⟩ := int_at hD' k hlt'
        have HX := Veil.mk (show xs.take (k + 1) = xs.take k ++ [xs[k]] from List.take_succ_eq_append_getElem hlt)
        have HY := Veil.mk (show ys.take (k + 1) = ys.take k ++ [ys[k]] from List.take_succ_eq_append_getElem hlt')
        have HN : Veil (xs[k] ≠ ys[k] → decide (xs = ys) = false) := ⟨fun h => decide_eq_false (fun h' => h (by subst h'; rfl))⟩
        obtain ⟨x, hx⟩ : ∃ x, xs[k] = x := ⟨_, rfl⟩
        obtain ⟨y, hy⟩ : ∃ y, ys[k] = y := ⟨_, rfl⟩
        rw [hx] at x0 HX HN
        rw [hy] at y0 HY HN
        clear hx hy hD'
        by_cases hxy : x = y
        · subst hxy
          go_wp2_with fail
          go_quiet (fail)
          go_wp2
          exact ⟨⟨k + 1, by omega, by go_num, ⟨by rw [HX.out, HY.out, HT.out]⟩, ⟨HB.out.drewN _⟩⟩, by simp [intOf]; omega⟩
        · have m0 : (x != y) = true := by simp [hxy]
          have HF := Veil.mk (HN.out hxy)
          clear hxy
          go_wp2_with fail
          go_quiet (fail)
          go_wp2
          go_ret
          exact ⟨by rw [HF.out]; rfl, HB.out.drewN _⟩
      · have d1 : decide ((k : Int) < (xs.length : Int)) = false := decide_eq_false (by omega)
        have HF : Veil (decide (xs = ys) = true) := ⟨decide_eq_true (by have h := HT.out; have := HE.out; rwa [List.take_of_length_le (by omega), List.take_of_length_le (by omega)] at h)⟩
        go_wp2
        go_ret
        exact ⟨by rw [HF.out]; rfl, HB.out⟩
  · have d0 : (xs.length != ys.length) = true := by simp; omega
    have hn : decide (xs = ys) = false := decide_eq_false (fun h => he (by rw [h]))
    go_enter Try.func48, Try.ntmps48
    go_wp2
    go_ret
    exact ⟨by rw [hn]; rfl, Below.refl _ _⟩


def exO : List Ev := [⟨1, 0, 0, 1, 0, 0, 0⟩, ⟨2, 0, 0, 1, 0, 5, 0⟩, ⟨1, 1, 0, 1, 0, 0, 0⟩, ⟨3, 1, 0, 1, 0, 7, 0⟩, ⟨5, 1, 0, 1, 0, 0, 0⟩, ⟨6, 0, 0, 1, 0, 0, 1⟩]
theorem exO_ok : ∀ e ∈ exO, EvOkO e := by
  intro e he
  simp only [exO, List.mem_cons, List.not_mem_nil, or_false] at he
  rcases he with rfl | rfl | rfl | rfl | rfl | rfl <;> exact ⟨⟨by decide, by decide⟩, by decide⟩
theorem exO_err : errM [5] exO = 0 := by rfl
theorem exO_seen : seenRes [5] exO = [0, 0] := by rfl
theorem exO_ranks : ranksM [5] exO (triesM exO).length = [(0, 0), (1, 1)] := by rfl
theorem order_unique {first : List Int} {l : List Ev} {ts us : List Th} (h : OrderOf first l ts) (hp : us.Perm (ranksM first l (triesM l).length)) (hs : us.Pairwise leT) : ts = us :=
  List.Perm.eq_of_pairwise (fun a b _ _ h1 h2 => leT_antisymm h1 h2) h.sorted hs (h.perm.trans hp.symm)
theorem exO_order {ts : List Th} (h : OrderOf [5] exO ts) : ts = [(0, 0), (1, 1)] := order_unique h (by rw [exO_ranks]) (by simp [leT])
theorem ints_lit2 {w : World} {b T : Nat} {x y : Int} (h : Blk w b T [.int .i64 x, .int .i64 y]) : kI.C w (some ⟨b, 0, none⟩) 2 [x, y] := by
  refine ⟨rfl, by omega, fun _ => ⟨⟨b, 0, none⟩, rfl, fun j p hj => ?_⟩⟩
  have hj2 : j < 2 := (List.getElem?_eq_some_iff.1 hj).1
  refine ⟨[.int .i64 p], rfl, rfl, fun i u hi => ?_⟩
  have h1 : i = 0 := by have := (List.getElem?_eq_some_iff.1 hi).1; simp at this; omega
  subst h1
  simp only [List.getElem?_cons_zero, Option.some.injEq] at hi
  subst hi
  have hcell := h.cell j (.int .i64 p) (by
    match j, hj2, hj with
    | 0, _, hj => simp at hj; simp [hj]
    | 1, _, hj => simp at hj; simp [hj])
  show w.cell? ((⟨b, 0, none⟩ : Addr).add (j * 1 + 0)) = some (.int .i64 p)
  unfold Addr.add
  by_cases h0 : j * 1 + 0 = 0
  · rw [if_pos h0]
    have : j = 0 := by omega
    subst this
    exact hcell
  · rw [if_neg h0]
    simpa using hcell

theorem seen_ex (w : World) (A B : Option Addr) (hC : kEv.C w A exO.length exO) (hF : kI.C w B 1 [5]) :
    Calls Try.prog 44 #[.slice B 1 1, .slice A 6 6] w fun e w' => ∃ C c, e = .returned (.tuple #[.slice C 2 c, .int .i64 0]) ∧ kI.C w' C 2 [0, 0] ∧ Below w.heap.size w w' := by
  refine (oseen_any w A 6 exO B 1 [5] hC (by decide) (by decide) exO_ok hF (by decide)).mono ?_
  rintro e w' ⟨v, rfl, hv, hb⟩
  rw [exO_seen] at hv
  obtain ⟨C, c, rfl, _, hC⟩ := Kd.R_reads hv
  exact ⟨C, c, by rw [exO_err]; rfl, hC, hb⟩
theorem order_ex (w : World) (A B : Option Addr) (hC : kEv.C w A exO.length exO) (hF : kI.C w B 1 [5]) :
    Calls Try.prog 45 #[.slice B 1 1, .slice A 6 6] w fun e w' => ∃ C c, e = .returned (.tuple #[.slice C 2 c, .int .i64 0]) ∧ kI.C w' C 2 [0, 1] ∧ Below w.heap.size w w' := by
  refine (order_any w A 6 exO B 1 [5] hC (by decide) (by decide) exO_ok hF (by decide)).mono ?_
  rintro e w' ⟨⟨v, rfl, h1, _⟩, hb⟩
  obtain ⟨ts, ht, hv⟩ := h1 exO_err
  rw [exO_order ht] at hv
  obtain ⟨C, c, rfl, _, hC⟩ := Kd.R_reads hv
  exact ⟨C, c, by rw [exO_err]; rfl, hC, hb⟩
theorem oints_same (w : World) (A B : Option Addr) (c d : Nat) (x y : Int) (hC : kI.C w A 2 [x, y]) (hD : kI.C w B 2 [x, y]) :
    Calls Try.prog 48 #[.slice A 2 c, .slice B 2 d] w fun e w' => e = .returned (.bool true) ∧ Below w.heap.size w w' := by
  refine (oints_any w A B c d [x, y] [x, y] hC hD (by simp) (by simp)).mono ?_
  rintro e w' ⟨rfl, hb⟩
  exact ⟨by simp, hb⟩

set_option maxHeartbeats 4000000 in
set_option maxRecDepth 100000 in
theorem alive19_any (w : World) : Calls Try.prog 43 #[] w fun e w' => e = .returned (.bool true) ∧ Below w.heap.size w w' := by
  have hb1 : Below w.heap.size w (w.alloc (.cells #[.int .i64 1, .int .i64 0, .int .i64 0, .int .i64 1, .int .i64 0, .int .i64 0, .int .i64 0, .int .i64 2, .int .i64 0, .int .i64 0, .int .i64 1, .int .i64 0, .int .i64 5, .int .i64 0, .int .i64 1, .int .i64 1, .int .i64 0, .int .i64 1, .int .i64 0, .int .i64 0, .int .i64 0, .int .i64 3, .int .i64 1, .int .i64 0, .int .i64 1, .int .i64 0, .int .i64 7, .int .i64 0, .int .i64 5, .int .i64 1, .int .i64 0, .int .i64 1, .int .i64 0, .int .i64 0, .int .i64 0, .int .i64 6, .int .i64 0, .int .i64 0, .int .i64 1, .int .i64 0, .int .i64 0, .int .i64 1] 31)) := (Below.refl _ _).alloc (Nat.le_refl _) _
  have HB1 := Veil.mk hb1
  have HC1 := Veil.mk (ev_lit (l := exO) (Blk.new w #[.int .i64 1, .int .i64 0, .int .i64 0, .int .i64 1, .int .i64 0, .int .i64 0, .int .i64 0, .int .i64 2, .int .i64 0, .int .i64 0, .int .i64 1, .int .i64 0, .int .i64 5, .int .i64 0, .int .i64 1, .int .i64 1, .int .i64 0, .int .i64 1, .int .i64 0, .int .i64 0, .int .i64 0, .int .i64 3, .int .i64 1, .int .i64 0, .int .i64 1, .int .i64 0, .int .i64 7, .int .i64 0, .int .i64 5, .int .i64 1, .int .i64 0, .int .i64 1, .int .i64 0, .int .i64 0, .int .i64 0, .int .i64 6, .int .i64 0, .int .i64 0, .int .i64 1, .int .i64 0, .int .i64 0, .int .i64 1] 31) (by decide))
  clear hb1
  go_enter Try.func43, Try.ntmps43
  have HBX : Veil (∀ W : World, Below W.heap.size W (W.alloc (.cells #[.int .i64 5] 2))) := ⟨fun W => (Below.refl _ _).alloc (Nat.le_refl _) _⟩
  have HBY : Veil (∀ (W : World) (x y : Int), Below W.heap.size W (W.alloc (.cells #[.int .i64 x, .int .i64 y] 3))) := ⟨fun W x y => (Below.refl _ _).alloc (Nat.le_refl _) _⟩
  go_wp2_with (first | (go_at_call 44; go_must (refine (seen_ex _ (some ⟨w.heap.size, 0, none⟩) (some ⟨w.heap.size + 1, 0, none⟩) (Kd.C_below HC1.out (HBX.out _)) (int_lit (by have h := Blk.new (w.alloc (.cells #[.int .i64 1, .int .i64 0, .int .i64 0, .int .i64 1, .int .i64 0, .int .i64 0, .int .i64 0, .int .i64 2, .int .i64 0, .int .i64 0, .int .i64 1, .int .i64 0, .int .i64 5, .int .i64 0, .int .i64 1, .int .i64 1, .int .i64 0, .int .i64 1, .int .i64 0, .int .i64 0, .int .i64 0, .int .i64 3, .int .i64 1, .int .i64 0, .int .i64 1, .int .i64 0, .int .i64 7, .int .i64 0, .int .i64 5, .int .i64 1, .int .i64 0, .int .i64 1, .int .i64 0, .int .i64 0, .int .i64 0, .int .i64 6, .int .i64 0, .int .i64 0, .int .i64 1, .int .i64 0, .int .i64 0, .int .i64 1] 31)) #[.int .i64 5] 2; rw [World.size_alloc] at h; exact h))).mono ?_; rintro ed w3 ⟨C, c, rfl, hk, hb⟩; have HK3 := Veil.mk hk; have HB3 := Veil.mk (below_of (below_of HB1.out (HBX.out _)) hb); have HC3 := Veil.mk (Kd.C_below (Kd.C_below HC1.out (HBX.out _)) hb); clear hk hb)) | (go_at_call 45; go_must (refine (order_ex _ (some ⟨w.heap.size, 0, none⟩) (some ⟨w3.heap.size, 0, none⟩) (Kd.C_below HC3.out (HBX.out _)) (int_lit (Blk.new w3 #[.int .i64 5] 2))).mono ?_; rintro ed w4 ⟨D, d, rfl, hk, hb⟩; have HK4 := Veil.mk hk; have HB4 := Veil.mk (below_of (below_of HB3.out (HBX.out _)) hb); have HP4 := Veil.mk (Kd.C_below (Kd.C_below HK3.out (HBX.out _)) hb); clear hk hb)) | (go_at_call 48; with_reducible refine (oints_same _ C (some ⟨w4.heap.size, 0, none⟩) c 2 0 0 (Kd.C_below HP4.out (HBY.out _ 0 0)) (ints_lit2 (Blk.new w4 #[.int .i64 0, .int .i64 0] 3))).mono ?_; go_must (rintro ed w5 ⟨rfl, hb⟩; have HB5 := Veil.mk (below_of (below_of HB4.out (HBY.out _ 0 0)) hb); have HP5 := Veil.mk (Kd.C_below (Kd.C_below HK4.out (HBY.out _ 0 0)) hb); clear hb)) | (go_at_call 48; with_reducible refine (oints_same _ D (some ⟨w5.heap.size, 0, none⟩) d 2 0 1 (Kd.C_below HP5.out (HBY.out _ 0 1)) (ints_lit2 (Blk.new w5 #[.int .i64 0, .int .i64 1] 3))).mono ?_; go_must (rintro ed w6 ⟨rfl, hb⟩; have HB6 := Veil.mk (below_of (below_of HB5.out (HBY.out _ 0 1)) hb); clear hb)))
  go_ret
  exact ⟨rfl, HB6.out⟩
end Go.Proofs.Ytjmnbbflahacoaa.Opq
