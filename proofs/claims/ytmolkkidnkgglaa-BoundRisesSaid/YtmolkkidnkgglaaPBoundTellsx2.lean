-- PRINTED BY print.sh 35421559b90ae4d0a3588c463048766b98c2df88dd9212a6774a882060cdf62d: not written by this session
import Derived.Test.YtmolkkidnkgglaaPBoundTellsx0
namespace Go.Proofs.Ytmolkkidnkgglaa.PBoundTells
open Go.RowKit Go.Proofs.YtmolkkidnkgglaaW.PrintWords Go.Proofs.YtmolkkidnkgglaaW.PrintLast Go.Proofs.YtmolkkidnkgglaaW.PrintMore
attribute [local go_sem] max2_int min2_int max_two min_two max_three min_three max_four min_four   -- for this text's walks alone
set_option linter.unusedVariables false
set_option linter.unusedSimpArgs false

/-! ### quarrellaw16_Great: function 10 -/
mutual
def quarrellaw16_Great.j0 : Nat → Bool → Int → Int → Int → Int → Int → Int → List Int → List Int → List (List (List (S59))) → Option (Int)
  | 0, _, _, _, _, _, _, _, _, _, _ => none
  | k + 1, x20, x132000, x132001, x132002, x132003, x132004, x132005, x132006, x132007, x132008 => if x20 = true then (some 1) else (quarrellaw16_Great.l0 k 0 x132000 x132001 x132002 x132003 x132004 x132005 x132006 x132007 x132008)
def quarrellaw16_Great.l0 : Nat → Int → Int → Int → Int → Int → Int → Int → List Int → List Int → List (List (List (S59))) → Option (Int)
  | 0, _, _, _, _, _, _, _, _, _, _ => none
  | k + 1, x3, x132000, x132001, x132002, x132003, x132004, x132005, x132006, x132007, x132008 => if x3 < (x132008.length : Int) then (if 0 ≤ x3 then (if ((rd_L3 x132008 x3).length : Int) > 20 then (some 1) else (quarrellaw16_Great.l1 k x3 0 x132000 x132001 x132002 x132003 x132004 x132005 x132006 x132007 x132008)) else (none)) else (some 0)
def quarrellaw16_Great.l1 : Nat → Int → Int → Int → Int → Int → Int → Int → Int → List Int → List Int → List (List (List (S59))) → Option (Int)
  | 0, _, _, _, _, _, _, _, _, _, _, _ => none
  | k + 1, x3, x4, x132000, x132001, x132002, x132003, x132004, x132005, x132006, x132007, x132008 => if 0 ≤ x3 then (if x3 < (x132008.length : Int) then (if x4 < ((rd_L3 x132008 x3).length : Int) then (if 0 ≤ x4 then (if ((rd_L2 (rd_L3 x132008 x3) x4).length : Int) > 20 then (some 1) else (quarrellaw16_Great.l1 k x3 (wrap64 (x4 + 1)) x132000 x132001 x132002 x132003 x132004 x132005 x132006 x132007 x132008)) else (none)) else (quarrellaw16_Great.l0 k (wrap64 (x3 + 1)) x132000 x132001 x132002 x132003 x132004 x132005 x132006 x132007 x132008)) else (none)) else (none)
end
def quarrellaw16_Great.f (k : Nat) (a0_0 : Int) (a0_1 : Int) (a0_2 : Int) (a0_3 : Int) (a0_4 : Int) (a0_5 : Int) (l0_6 : List Int) (l0_7 : List Int) (l0_8 : List (List (List (S59)))) : Option (Int) := if (l0_6.length : Int) > 20 then (quarrellaw16_Great.j0 k true a0_0 a0_1 a0_2 a0_3 a0_4 a0_5 l0_6 l0_7 l0_8) else (if (l0_7.length : Int) > 50 then (quarrellaw16_Great.j0 k true a0_0 a0_1 a0_2 a0_3 a0_4 a0_5 l0_6 l0_7 l0_8) else (quarrellaw16_Great.j0 k (decide ((l0_8.length : Int) > 10)) a0_0 a0_1 a0_2 a0_3 a0_4 a0_5 l0_6 l0_7 l0_8))
theorem quarrellaw16_Great.mono_l : ∀ k, (∀ y0 y1 y2 y3 y4 y5 y6 y7 y8 y9, LeO (quarrellaw16_Great.j0 k y0 y1 y2 y3 y4 y5 y6 y7 y8 y9) (quarrellaw16_Great.j0 (k + 1) y0 y1 y2 y3 y4 y5 y6 y7 y8 y9)) ∧ (∀ y0 y1 y2 y3 y4 y5 y6 y7 y8 y9, LeO (quarrellaw16_Great.l0 k y0 y1 y2 y3 y4 y5 y6 y7 y8 y9) (quarrellaw16_Great.l0 (k + 1) y0 y1 y2 y3 y4 y5 y6 y7 y8 y9)) ∧ (∀ y0 y1 y2 y3 y4 y5 y6 y7 y8 y9 y10, LeO (quarrellaw16_Great.l1 k y0 y1 y2 y3 y4 y5 y6 y7 y8 y9 y10) (quarrellaw16_Great.l1 (k + 1) y0 y1 y2 y3 y4 y5 y6 y7 y8 y9 y10))
  | 0 => ⟨fun _ _ _ _ _ _ _ _ _ _ r h => by simp [quarrellaw16_Great.j0] at h, fun _ _ _ _ _ _ _ _ _ _ r h => by simp [quarrellaw16_Great.l0] at h, fun _ _ _ _ _ _ _ _ _ _ _ r h => by simp [quarrellaw16_Great.l1] at h⟩
  | k + 1 => by
    obtain ⟨ih0, ih1, ih2⟩ := quarrellaw16_Great.mono_l k
    refine ⟨?_, ?_, ?_⟩
    · intro y0 y1 y2 y3 y4 y5 y6 y7 y8 y9
      unfold quarrellaw16_Great.j0
      repeat' first
      | (with_reducible exact ih0 _ _ _ _ _ _ _ _ _ _)
      | (with_reducible exact ih1 _ _ _ _ _ _ _ _ _ _)
      | (with_reducible exact ih2 _ _ _ _ _ _ _ _ _ _ _)
      | (with_reducible exact LeO.refl _)
      | (with_reducible exact LeO.none _)
      | (with_reducible refine LeO.ite ?_ ?_)
      | (with_reducible refine LeO.bind ?_ (fun _ => ?_))
      | exact ih0 _ _ _ _ _ _ _ _ _ _
      | exact ih1 _ _ _ _ _ _ _ _ _ _
      | exact ih2 _ _ _ _ _ _ _ _ _ _ _
      | exact LeO.none _
      | refine LeO.ite ?_ ?_
      | refine LeO.bind ?_ (fun _ => ?_)
    · intro y0 y1 y2 y3 y4 y5 y6 y7 y8 y9
      unfold quarrellaw16_Great.l0
      repeat' first
      | (with_reducible exact ih0 _ _ _ _ _ _ _ _ _ _)
      | (with_reducible exact ih1 _ _ _ _ _ _ _ _ _ _)
      | (with_reducible exact ih2 _ _ _ _ _ _ _ _ _ _ _)
      | (with_reducible exact LeO.refl _)
      | (with_reducible exact LeO.none _)
      | (with_reducible refine LeO.ite ?_ ?_)
      | (with_reducible refine LeO.bind ?_ (fun _ => ?_))
      | exact ih0 _ _ _ _ _ _ _ _ _ _
      | exact ih1 _ _ _ _ _ _ _ _ _ _
      | exact ih2 _ _ _ _ _ _ _ _ _ _ _
      | exact LeO.none _
      | refine LeO.ite ?_ ?_
      | refine LeO.bind ?_ (fun _ => ?_)
    · intro y0 y1 y2 y3 y4 y5 y6 y7 y8 y9 y10
      unfold quarrellaw16_Great.l1
      repeat' first
      | (with_reducible exact ih0 _ _ _ _ _ _ _ _ _ _)
      | (with_reducible exact ih1 _ _ _ _ _ _ _ _ _ _)
      | (with_reducible exact ih2 _ _ _ _ _ _ _ _ _ _ _)
      | (with_reducible exact LeO.refl _)
      | (with_reducible exact LeO.none _)
      | (with_reducible refine LeO.ite ?_ ?_)
      | (with_reducible refine LeO.bind ?_ (fun _ => ?_))
      | exact ih0 _ _ _ _ _ _ _ _ _ _
      | exact ih1 _ _ _ _ _ _ _ _ _ _
      | exact ih2 _ _ _ _ _ _ _ _ _ _ _
      | exact LeO.none _
      | refine LeO.ite ?_ ?_
      | refine LeO.bind ?_ (fun _ => ?_)
theorem quarrellaw16_Great.mono : ∀ a0 a1 a2 a3 a4 a5 a6 a7 a8 k, LeO (quarrellaw16_Great.f k a0 a1 a2 a3 a4 a5 a6 a7 a8) (quarrellaw16_Great.f (k + 1) a0 a1 a2 a3 a4 a5 a6 a7 a8) := by
  intro a0 a1 a2 a3 a4 a5 a6 a7 a8 k
  obtain ⟨ih0, ih1, ih2⟩ := quarrellaw16_Great.mono_l k
  unfold quarrellaw16_Great.f
  repeat' first
      | (with_reducible exact ih0 _ _ _ _ _ _ _ _ _ _)
      | (with_reducible exact ih1 _ _ _ _ _ _ _ _ _ _)
      | (with_reducible exact ih2 _ _ _ _ _ _ _ _ _ _ _)
      | (with_reducible exact LeO.refl _)
      | (with_reducible exact LeO.none _)
      | (with_reducible refine LeO.ite ?_ ?_)
      | (with_reducible refine LeO.bind ?_ (fun _ => ?_))
      | exact ih0 _ _ _ _ _ _ _ _ _ _
      | exact ih1 _ _ _ _ _ _ _ _ _ _
      | exact ih2 _ _ _ _ _ _ _ _ _ _ _
      | exact LeO.none _
      | refine LeO.ite ?_ ?_
      | refine LeO.bind ?_ (fun _ => ?_)
set_option maxHeartbeats 8000000 in
set_option maxRecDepth 100000 in
theorem quarrellaw16_Great.calls (k : Nat) (a0_0 : Int) (a0_1 : Int) (a0_2 : Int) (a0_3 : Int) (a0_4 : Int) (a0_5 : Int) (A0_6 : Option Addr) (c0_6 : Nat) (l0_6 : List Int) (A0_7 : Option Addr) (c0_7 : Nat) (l0_7 : List Int) (A0_8 : Option Addr) (c0_8 : Nat) (l0_8 : List (List (List (S59)))) (r : Int) (w : World) (hr0_6 : Kd.C (Kd.int .i64) w A0_6 l0_6.length l0_6) (hc0_6 : l0_6.length ≤ c0_6) (hr0_7 : Kd.C (Kd.int .u8) w A0_7 l0_7.length l0_7) (hc0_7 : l0_7.length ≤ c0_7) (hr0_8 : Kd.C (Kd.slice 40 (Kd.slice 59 k59)) w A0_8 l0_8.length l0_8) (hc0_8 : l0_8.length ≤ c0_8) (h : quarrellaw16_Great.f k a0_0 a0_1 a0_2 a0_3 a0_4 a0_5 l0_6 l0_7 l0_8 = some r) :
    Calls Try.prog 10 #[.agg #[.int .i64 a0_0, .int .i64 a0_1, .int .i64 a0_2, .int .i64 a0_3, .int .i64 a0_4, .int .i64 a0_5, .slice A0_6 l0_6.length c0_6, .slice A0_7 l0_7.length c0_7, .slice A0_8 l0_8.length c0_8]] w fun e w' => e = .returned (.int .i64 r) ∧ Below w.heap.size w w' := by
  have hu34 := Try.underlying34
  have HR0_6 := Aside0.mk hr0_6
  have HC0_6 := Aside0.mk hc0_6
  clear hr0_6 hc0_6
  have HR0_7 := Aside0.mk hr0_7
  have HC0_7 := Aside0.mk hc0_7
  clear hr0_7 hc0_7
  have HR0_8 := Aside0.mk hr0_8
  have HC0_8 := Aside0.mk hc0_8
  clear hr0_8 hc0_8
  have HB := Aside0.mk (Below.refl w.heap.size w)
  have H : (if (l0_6.length : Int) > 20 then (quarrellaw16_Great.j0 k true a0_0 a0_1 a0_2 a0_3 a0_4 a0_5 l0_6 l0_7 l0_8) else (if (l0_7.length : Int) > 50 then (quarrellaw16_Great.j0 k true a0_0 a0_1 a0_2 a0_3 a0_4 a0_5 l0_6 l0_7 l0_8) else (quarrellaw16_Great.j0 k (decide ((l0_8.length : Int) > 10)) a0_0 a0_1 a0_2 a0_3 a0_4 a0_5 l0_6 l0_7 l0_8))) = some r := h
  clear h
  have HC2 := Aside0.mk H
  clear H
  go_enter Try.func10, Try.ntmps10
  go_upto_region 1 with (first | ((with_reducible refine gate_dst (N := 1) rfl ?_); (try (refine gate_guard (by rfl) ?_; dsimp only)); refine box_event ?hg (N := 1) ?hd (cs := #[.int .i64 a0_0, .int .i64 a0_1, .int .i64 a0_2, .int .i64 a0_3, .int .i64 a0_4, .int .i64 a0_5, .slice A0_6 l0_6.length c0_6, .slice A0_7 l0_7.length c0_7, .slice A0_8 l0_8.length c0_8]) (t := 34) ?hr ?_; (case hd => rfl); (case hg => rfl); (case hr => first | (go_simp; done) | (go_simp; rfl)); intro gb131 hg w3 hbox hb; have n0_ := Aside0.mk (below_step (by repeat (first | (with_reducible first | exact HB.out | apply below_alloc | apply pw_below_drewN | apply below_drew1) | exact HB.out)) hb); have n1_ := Aside0.mk (hbox); have n2_ := Aside0.mk ((by rw [hg]; exact (below_size (by repeat (first | (with_reducible first | exact HB.out | apply below_alloc | apply pw_below_drewN | apply below_drew1) | exact HB.out))) : w.heap.size ≤ gb131)); have n3_ := Aside0.mk ((by rw [hg]; exact (below_size (by repeat (first | (with_reducible first | exact HB.out | apply below_alloc | apply pw_below_drewN | apply below_drew1) | exact HB.out))) : w.heap.size ≤ gb131)); clear HB; have HB := n0_; have BK131 := n1_; have GW131 := n2_; have GE131 := n3_; clear n0_ n1_ n2_ n3_; clear hb hbox hg))
  (try simp only [Act.put, List.setIfInBounds_toArray, List.set_cons_zero, List.set_cons_succ])
  go_cut [20] (fun v20 wc => ∃ (kq : Nat) (x20_1 : Bool), v20 = .bool x20_1 ∧ Aside0 (quarrellaw16_Great.j0 kq x20_1 a0_0 a0_1 a0_2 a0_3 a0_4 a0_5 l0_6 l0_7 l0_8 = some r) ∧ Aside0 (kq ≤ k) ∧ Aside0 (wc.heap[gb131]? = some (.cells #[.int .i64 a0_0, .int .i64 a0_1, .int .i64 a0_2, .int .i64 a0_3, .int .i64 a0_4, .int .i64 a0_5, (.slice A0_6 l0_6.length c0_6), (.slice A0_7 l0_7.length c0_7), (.slice A0_8 l0_8.length c0_8)] 34 (0, 0))) ∧ Aside0 (Below w.heap.size w wc))
  case first =>
    have H := HC2.out
    clear HC2
    by_cases c4 : (l0_6.length : Int) > 20
    · rw [if_pos c4] at H
      have c4b0 : decide (20 < (l0_6.length : Int)) = true := decide_eq_true c4
      have c4b1 : decide (20 < l0_6.length) = true := decide_eq_true (by omega)
      clear c4
      (first | rw [c4b0] | (simp only [i64_w, i32_w]; rw [c4b0]) | skip)
      have H' := Aside0.mk H
      clear H
      have hcz5_0 : w3.cell? ⟨gb131, 0, none⟩ = some (.int .i64 a0_0) := (blk_cell BK131.out 0).trans rfl
      have hcz5_1 : w3.cell? ⟨gb131, 1, none⟩ = some (.int .i64 a0_1) := (blk_cell BK131.out 1).trans rfl
      have hcz5_2 : w3.cell? ⟨gb131, 2, none⟩ = some (.int .i64 a0_2) := (blk_cell BK131.out 2).trans rfl
      have hcz5_3 : w3.cell? ⟨gb131, 3, none⟩ = some (.int .i64 a0_3) := (blk_cell BK131.out 3).trans rfl
      have hcz5_4 : w3.cell? ⟨gb131, 4, none⟩ = some (.int .i64 a0_4) := (blk_cell BK131.out 4).trans rfl
      have hcz5_5 : w3.cell? ⟨gb131, 5, none⟩ = some (.int .i64 a0_5) := (blk_cell BK131.out 5).trans rfl
      have hcz5_6 : w3.cell? ⟨gb131, 6, none⟩ = some (.slice A0_6 l0_6.length c0_6) := (blk_cell BK131.out 6).trans rfl
      have hcz5_7 : w3.cell? ⟨gb131, 7, none⟩ = some (.slice A0_7 l0_7.length c0_7) := (blk_cell BK131.out 7).trans rfl
      have hcz5_8 : w3.cell? ⟨gb131, 8, none⟩ = some (.slice A0_8 l0_8.length c0_8) := (blk_cell BK131.out 8).trans rfl
      have hfz5_0 := blk_frozen BK131.out 0
      have hfz5_1 := blk_frozen BK131.out 1
      have hfz5_2 := blk_frozen BK131.out 2
      have hfz5_3 := blk_frozen BK131.out 3
      have hfz5_4 := blk_frozen BK131.out 4
      have hfz5_5 := blk_frozen BK131.out 5
      have hfz5_6 := blk_frozen BK131.out 6
      have hfz5_7 := blk_frozen BK131.out 7
      have hfz5_8 := blk_frozen BK131.out 8
      go_wp2
      go_meet
      case rel => exact ⟨_, (true), (by first | rfl | (simp; done) | (simp [*]; done)), H', ⟨by first | omega | exact Nat.le_refl _⟩, ⟨by (with_reducible repeat (first | refine blk_drewN ?_ _ | refine blk_drew ?_ | refine blk_alloc ?_ _)); exact BK131.out⟩, ⟨by repeat (first | (with_reducible first | exact HB.out | apply below_alloc | apply pw_below_drewN | apply below_drew1 | refine below_set ?_ GE131.out) | exact HB.out)⟩⟩
    · rw [if_neg c4] at H
      have c4b0 : decide (20 < (l0_6.length : Int)) = false := decide_eq_false c4
      have c4b1 : decide (20 < l0_6.length) = false := decide_eq_false (by omega)
      clear c4
      (first | rw [c4b0] | (simp only [i64_w, i32_w]; rw [c4b0]) | skip)
      by_cases c6 : (l0_7.length : Int) > 50
      · rw [if_pos c6] at H
        have c6b0 : decide (50 < (l0_7.length : Int)) = true := decide_eq_true c6
        have c6b1 : decide (50 < l0_7.length) = true := decide_eq_true (by omega)
        clear c6
        have H' := Aside0.mk H
        clear H
        have hcz7_0 : w3.cell? ⟨gb131, 0, none⟩ = some (.int .i64 a0_0) := (blk_cell BK131.out 0).trans rfl
        have hcz7_1 : w3.cell? ⟨gb131, 1, none⟩ = some (.int .i64 a0_1) := (blk_cell BK131.out 1).trans rfl
        have hcz7_2 : w3.cell? ⟨gb131, 2, none⟩ = some (.int .i64 a0_2) := (blk_cell BK131.out 2).trans rfl
        have hcz7_3 : w3.cell? ⟨gb131, 3, none⟩ = some (.int .i64 a0_3) := (blk_cell BK131.out 3).trans rfl
        have hcz7_4 : w3.cell? ⟨gb131, 4, none⟩ = some (.int .i64 a0_4) := (blk_cell BK131.out 4).trans rfl
        have hcz7_5 : w3.cell? ⟨gb131, 5, none⟩ = some (.int .i64 a0_5) := (blk_cell BK131.out 5).trans rfl
        have hcz7_6 : w3.cell? ⟨gb131, 6, none⟩ = some (.slice A0_6 l0_6.length c0_6) := (blk_cell BK131.out 6).trans rfl
        have hcz7_7 : w3.cell? ⟨gb131, 7, none⟩ = some (.slice A0_7 l0_7.length c0_7) := (blk_cell BK131.out 7).trans rfl
        have hcz7_8 : w3.cell? ⟨gb131, 8, none⟩ = some (.slice A0_8 l0_8.length c0_8) := (blk_cell BK131.out 8).trans rfl
        have hfz7_0 := blk_frozen BK131.out 0
        have hfz7_1 := blk_frozen BK131.out 1
        have hfz7_2 := blk_frozen BK131.out 2
        have hfz7_3 := blk_frozen BK131.out 3
        have hfz7_4 := blk_frozen BK131.out 4
        have hfz7_5 := blk_frozen BK131.out 5
        have hfz7_6 := blk_frozen BK131.out 6
        have hfz7_7 := blk_frozen BK131.out 7
        have hfz7_8 := blk_frozen BK131.out 8
        go_wp2
        go_meet
        case rel => exact ⟨_, (true), (by first | rfl | (simp; done) | (simp [*]; done)), H', ⟨by first | omega | exact Nat.le_refl _⟩, ⟨by (with_reducible repeat (first | refine blk_drewN ?_ _ | refine blk_drew ?_ | refine blk_alloc ?_ _)); exact BK131.out⟩, ⟨by repeat (first | (with_reducible first | exact HB.out | apply below_alloc | apply pw_below_drewN | apply below_drew1 | refine below_set ?_ GE131.out) | exact HB.out)⟩⟩
      · rw [if_neg c6] at H
        have c6b0 : decide (50 < (l0_7.length : Int)) = false := decide_eq_false c6
        have c6b1 : decide (50 < l0_7.length) = false := decide_eq_false (by omega)
        clear c6
        have H' := Aside0.mk H
        clear H
        have hcz8_0 : w3.cell? ⟨gb131, 0, none⟩ = some (.int .i64 a0_0) := (blk_cell BK131.out 0).trans rfl
        have hcz8_1 : w3.cell? ⟨gb131, 1, none⟩ = some (.int .i64 a0_1) := (blk_cell BK131.out 1).trans rfl
        have hcz8_2 : w3.cell? ⟨gb131, 2, none⟩ = some (.int .i64 a0_2) := (blk_cell BK131.out 2).trans rfl
        have hcz8_3 : w3.cell? ⟨gb131, 3, none⟩ = some (.int .i64 a0_3) := (blk_cell BK131.out 3).trans rfl
        have hcz8_4 : w3.cell? ⟨gb131, 4, none⟩ = some (.int .i64 a0_4) := (blk_cell BK131.out 4).trans rfl
        have hcz8_5 : w3.cell? ⟨gb131, 5, none⟩ = some (.int .i64 a0_5) := (blk_cell BK131.out 5).trans rfl
        have hcz8_6 : w3.cell? ⟨gb131, 6, none⟩ = some (.slice A0_6 l0_6.length c0_6) := (blk_cell BK131.out 6).trans rfl
        have hcz8_7 : w3.cell? ⟨gb131, 7, none⟩ = some (.slice A0_7 l0_7.length c0_7) := (blk_cell BK131.out 7).trans rfl
        have hcz8_8 : w3.cell? ⟨gb131, 8, none⟩ = some (.slice A0_8 l0_8.length c0_8) := (blk_cell BK131.out 8).trans rfl
        have hfz8_0 := blk_frozen BK131.out 0
        have hfz8_1 := blk_frozen BK131.out 1
        have hfz8_2 := blk_frozen BK131.out 2
        have hfz8_3 := blk_frozen BK131.out 3
        have hfz8_4 := blk_frozen BK131.out 4
        have hfz8_5 := blk_frozen BK131.out 5
        have hfz8_6 := blk_frozen BK131.out 6
        have hfz8_7 := blk_frozen BK131.out 7
        have hfz8_8 := blk_frozen BK131.out 8
        go_wp2
        go_meet
        case rel => exact ⟨_, (decide ((l0_8.length : Int) > 10)), (by first | rfl | (simp; done) | (simp [*]; done)), H', ⟨by first | omega | exact Nat.le_refl _⟩, ⟨by (with_reducible repeat (first | refine blk_drewN ?_ _ | refine blk_drew ?_ | refine blk_alloc ?_ _)); exact BK131.out⟩, ⟨by repeat (first | (with_reducible first | exact HB.out | apply below_alloc | apply pw_below_drewN | apply below_drew1 | refine below_set ?_ GE131.out) | exact HB.out)⟩⟩
  case rest =>
    clear HC2
    try clear c1
    try clear p2
    try clear c4
    try clear c4b0
    try clear c4b1
    try clear c6
    try clear c6b0
    try clear c6b1
    try clear hcz5_0
    try clear hcz5_1
    try clear hcz5_2
    try clear hcz5_3
    try clear hcz5_4
    try clear hcz5_5
    try clear hcz5_6
    try clear hcz5_7
    try clear hcz5_8
    try clear hcz7_0
    try clear hcz7_1
    try clear hcz7_2
    try clear hcz7_3
    try clear hcz7_4
    try clear hcz7_5
    try clear hcz7_6
    try clear hcz7_7
    try clear hcz7_8
    try clear hcz8_0
    try clear hcz8_1
    try clear hcz8_2
    try clear hcz8_3
    try clear hcz8_4
    try clear hcz8_5
    try clear hcz8_6
    try clear hcz8_7
    try clear hcz8_8
    try clear hfz5_0
    try clear hfz5_1
    try clear hfz5_2
    try clear hfz5_3
    try clear hfz5_4
    try clear hfz5_5
    try clear hfz5_6
    try clear hfz5_7
    try clear hfz5_8
    try clear hfz7_0
    try clear hfz7_1
    try clear hfz7_2
    try clear hfz7_3
    try clear hfz7_4
    try clear hfz7_5
    try clear hfz7_6
    try clear hfz7_7
    try clear hfz7_8
    try clear hfz8_0
    try clear hfz8_1
    try clear hfz8_2
    try clear hfz8_3
    try clear hfz8_4
    try clear hfz8_5
    try clear hfz8_6
    try clear hfz8_7
    try clear hfz8_8
    obtain ⟨kq, x20_1, rfl, HA, HJ1, BK131, HB⟩ := hcut
    cases kq with
    | zero => exact absurd HA.out (by simp [quarrellaw16_Great.j0])
    | succ kj1 =>
      have H := HA.out
      clear HA
      simp only [quarrellaw16_Great.j0] at H
      by_cases c9 : x20_1 = true
      · subst c9
        have H1 : (some 1) = some r := by rw [if_pos rfl] at H; exact H
        clear H
        have H := H1
        clear H1
        obtain rfl := Option.some.inj H
        go_wp2
        go_ret
        exact ⟨by first | rfl | (simp [errW_none, errW_some] <;> rfl) | (simp [*, errW_none, errW_some] <;> rfl), by repeat (first | (with_reducible first | exact HB.out | apply below_alloc | apply pw_below_drewN | apply below_drew1 | refine below_set ?_ GE131.out) | exact HB.out)⟩
      · replace c9 := Bool.eq_false_iff.mpr c9
        subst c9
        have H1 : (quarrellaw16_Great.l0 kj1 0 a0_0 a0_1 a0_2 a0_3 a0_4 a0_5 l0_6 l0_7 l0_8) = some r := by rw [if_neg (show ¬ (false = true) by decide)] at H; exact H
        clear H
        have H := H1
        clear H1
        have H' := Aside0.mk H
        clear H
        go_wp2
        go_loopg [3] kj1 (fun kq v3 w' => ∃ (x3_2 : Int), v3 = .int .i64 x3_2 ∧ Aside0 (quarrellaw16_Great.l0 kq x3_2 a0_0 a0_1 a0_2 a0_3 a0_4 a0_5 l0_6 l0_7 l0_8 = some r) ∧ Aside0 (kq ≤ kj1) ∧ Aside0 (w'.heap[gb131]? = some (.cells #[.int .i64 a0_0, .int .i64 a0_1, .int .i64 a0_2, .int .i64 a0_3, .int .i64 a0_4, .int .i64 a0_5, (.slice A0_6 l0_6.length c0_6), (.slice A0_7 l0_7.length c0_7), (.slice A0_8 l0_8.length c0_8)] 34 (0, 0))) ∧ Aside0 (Below w.heap.size w w'))
        case atStart => exact ⟨(0), (by first | rfl | (simp; done) | (simp [*]; done)), H', ⟨Nat.le_refl _⟩, ⟨by (with_reducible repeat (first | refine blk_drewN ?_ _ | refine blk_drew ?_ | refine blk_alloc ?_ _)); exact BK131.out⟩, ⟨by repeat (first | (with_reducible first | exact HB.out | apply below_alloc | apply pw_below_drewN | apply below_drew1 | refine below_set ?_ GE131.out) | exact HB.out)⟩⟩
        case round =>
          clear H'
          try clear c1
          try clear p2
          try clear c4
          try clear c4b0
          try clear c4b1
          try clear c6
          try clear c6b0
          try clear c6b1
          try clear c9
          try clear hcz5_0
          try clear hcz5_1
          try clear hcz5_2
          try clear hcz5_3
          try clear hcz5_4
          try clear hcz5_5
          try clear hcz5_6
          try clear hcz5_7
          try clear hcz5_8
          try clear hcz7_0
          try clear hcz7_1
          try clear hcz7_2
          try clear hcz7_3
          try clear hcz7_4
          try clear hcz7_5
          try clear hcz7_6
          try clear hcz7_7
          try clear hcz7_8
          try clear hcz8_0
          try clear hcz8_1
          try clear hcz8_2
          try clear hcz8_3
          try clear hcz8_4
          try clear hcz8_5
          try clear hcz8_6
          try clear hcz8_7
          try clear hcz8_8
          try clear hfz5_0
          try clear hfz5_1
          try clear hfz5_2
          try clear hfz5_3
          try clear hfz5_4
          try clear hfz5_5
          try clear hfz5_6
          try clear hfz5_7
          try clear hfz5_8
          try clear hfz7_0
          try clear hfz7_1
          try clear hfz7_2
          try clear hfz7_3
          try clear hfz7_4
          try clear hfz7_5
          try clear hfz7_6
          try clear hfz7_7
          try clear hfz7_8
          try clear hfz8_0
          try clear hfz8_1
          try clear hfz8_2
          try clear hfz8_3
          try clear hfz8_4
          try clear hfz8_5
          try clear hfz8_6
          try clear hfz8_7
          try clear hfz8_8
          try clear p2
          obtain ⟨x3_2, rfl, HA, HK2, BK131, HB⟩ := hrel
          cases gk with
          | zero => exact absurd HA.out (by simp [quarrellaw16_Great.l0])
          | succ k2 =>
            have H := HA.out
            clear HA
            simp only [quarrellaw16_Great.l0] at H
            by_cases c10 : x3_2 < (l0_8.length : Int)
            · rw [if_pos c10] at H
              have c10b0 : decide (x3_2 < (l0_8.length : Int)) = true := decide_eq_true c10
              clear c10
              by_cases c11 : 0 ≤ x3_2
              · rw [if_pos c11] at H
                have c11b0 : decide (0 ≤ x3_2) = true := decide_eq_true c11
                clear c11
                by_cases c12 : ((rd_L3 l0_8 x3_2).length : Int) > 20
                · rw [if_pos c12] at H
                  have c12b0 : decide (20 < ((rd_L3 l0_8 x3_2).length : Int)) = true := decide_eq_true c12
                  have c12b1 : decide (20 < (rd_L3 l0_8 x3_2).length) = true := decide_eq_true (by omega)
                  clear c12
                  obtain rfl := Option.some.inj H
                  have hcz13_0 : wr.cell? ⟨gb131, 0, none⟩ = some (.int .i64 a0_0) := (blk_cell BK131.out 0).trans rfl
                  have hcz13_1 : wr.cell? ⟨gb131, 1, none⟩ = some (.int .i64 a0_1) := (blk_cell BK131.out 1).trans rfl
                  have hcz13_2 : wr.cell? ⟨gb131, 2, none⟩ = some (.int .i64 a0_2) := (blk_cell BK131.out 2).trans rfl
                  have hcz13_3 : wr.cell? ⟨gb131, 3, none⟩ = some (.int .i64 a0_3) := (blk_cell BK131.out 3).trans rfl
                  have hcz13_4 : wr.cell? ⟨gb131, 4, none⟩ = some (.int .i64 a0_4) := (blk_cell BK131.out 4).trans rfl
                  have hcz13_5 : wr.cell? ⟨gb131, 5, none⟩ = some (.int .i64 a0_5) := (blk_cell BK131.out 5).trans rfl
                  have hcz13_6 : wr.cell? ⟨gb131, 6, none⟩ = some (.slice A0_6 l0_6.length c0_6) := (blk_cell BK131.out 6).trans rfl
                  have hcz13_7 : wr.cell? ⟨gb131, 7, none⟩ = some (.slice A0_7 l0_7.length c0_7) := (blk_cell BK131.out 7).trans rfl
                  have hcz13_8 : wr.cell? ⟨gb131, 8, none⟩ = some (.slice A0_8 l0_8.length c0_8) := (blk_cell BK131.out 8).trans rfl
                  have hfz13_0 := blk_frozen BK131.out 0
                  have hfz13_1 := blk_frozen BK131.out 1
                  have hfz13_2 := blk_frozen BK131.out 2
                  have hfz13_3 := blk_frozen BK131.out 3
                  have hfz13_4 := blk_frozen BK131.out 4
                  have hfz13_5 := blk_frozen BK131.out 5
                  have hfz13_6 := blk_frozen BK131.out 6
                  have hfz13_7 := blk_frozen BK131.out 7
                  have hfz13_8 := blk_frozen BK131.out 8
                  have p132 : 0 ≤ (x3_2 : Int) := of_decide_eq_true (by first | (with_reducible assumption) | assumption)
                  have q132 : x3_2 < (l0_8.length : Int) := of_decide_eq_true (by first | (with_reducible assumption) | assumption)
                  obtain ⟨ad132, A132_0, c132_0, e132, hx132_0, hl132_0, hi132_0⟩ := at_L3 HR0_8.out x3_2 p132 q132
                  cases e132
                  replace hx132_0 := (HB.out.cell (World.block_lt_of_cell? w _ hx132_0)).trans hx132_0
                  have HR132_0 := Aside0.mk hi132_0
                  have HC132_0 := Aside0.mk hl132_0
                  clear hi132_0 hl132_0
                  replace p132 := eq_true p132
                  replace q132 := eq_true q132
                  go_wp2
                  go_ret
                  exact ⟨by first | rfl | (simp [errW_none, errW_some] <;> rfl) | (simp [*, errW_none, errW_some] <;> rfl), by repeat (first | (with_reducible first | exact HB.out | apply below_alloc | apply pw_below_drewN | apply below_drew1 | refine below_set ?_ GE131.out) | exact HB.out)⟩
                · rw [if_neg c12] at H
                  have c12b0 : decide (20 < ((rd_L3 l0_8 x3_2).length : Int)) = false := decide_eq_false c12
                  have c12b1 : decide (20 < (rd_L3 l0_8 x3_2).length) = false := decide_eq_false (by omega)
                  clear c12
                  have H' := Aside0.mk H
                  clear H
                  have hcz14_0 : wr.cell? ⟨gb131, 0, none⟩ = some (.int .i64 a0_0) := (blk_cell BK131.out 0).trans rfl
                  have hcz14_1 : wr.cell? ⟨gb131, 1, none⟩ = some (.int .i64 a0_1) := (blk_cell BK131.out 1).trans rfl
                  have hcz14_2 : wr.cell? ⟨gb131, 2, none⟩ = some (.int .i64 a0_2) := (blk_cell BK131.out 2).trans rfl
                  have hcz14_3 : wr.cell? ⟨gb131, 3, none⟩ = some (.int .i64 a0_3) := (blk_cell BK131.out 3).trans rfl
                  have hcz14_4 : wr.cell? ⟨gb131, 4, none⟩ = some (.int .i64 a0_4) := (blk_cell BK131.out 4).trans rfl
                  have hcz14_5 : wr.cell? ⟨gb131, 5, none⟩ = some (.int .i64 a0_5) := (blk_cell BK131.out 5).trans rfl
                  have hcz14_6 : wr.cell? ⟨gb131, 6, none⟩ = some (.slice A0_6 l0_6.length c0_6) := (blk_cell BK131.out 6).trans rfl
                  have hcz14_7 : wr.cell? ⟨gb131, 7, none⟩ = some (.slice A0_7 l0_7.length c0_7) := (blk_cell BK131.out 7).trans rfl
                  have hcz14_8 : wr.cell? ⟨gb131, 8, none⟩ = some (.slice A0_8 l0_8.length c0_8) := (blk_cell BK131.out 8).trans rfl
                  have hfz14_0 := blk_frozen BK131.out 0
                  have hfz14_1 := blk_frozen BK131.out 1
                  have hfz14_2 := blk_frozen BK131.out 2
                  have hfz14_3 := blk_frozen BK131.out 3
                  have hfz14_4 := blk_frozen BK131.out 4
                  have hfz14_5 := blk_frozen BK131.out 5
                  have hfz14_6 := blk_frozen BK131.out 6
                  have hfz14_7 := blk_frozen BK131.out 7
                  have hfz14_8 := blk_frozen BK131.out 8
                  have p132 : 0 ≤ (x3_2 : Int) := of_decide_eq_true (by first | (with_reducible assumption) | assumption)
                  have q132 : x3_2 < (l0_8.length : Int) := of_decide_eq_true (by first | (with_reducible assumption) | assumption)
                  obtain ⟨ad132, A132_0, c132_0, e132, hx132_0, hl132_0, hi132_0⟩ := at_L3 HR0_8.out x3_2 p132 q132
                  cases e132
                  replace hx132_0 := (HB.out.cell (World.block_lt_of_cell? w _ hx132_0)).trans hx132_0
                  have HR132_0 := Aside0.mk hi132_0
                  have HC132_0 := Aside0.mk hl132_0
                  clear hi132_0 hl132_0
                  replace p132 := eq_true p132
                  replace q132 := eq_true q132
                  go_wp2
                  go_loopg [4] k2 (fun kq v4 w' => ∃ (x4_3 : Int), v4 = .int .i64 x4_3 ∧ Aside0 (quarrellaw16_Great.l1 kq x3_2 x4_3 a0_0 a0_1 a0_2 a0_3 a0_4 a0_5 l0_6 l0_7 l0_8 = some r) ∧ Aside0 (kq ≤ k2) ∧ Aside0 (w'.heap[gb131]? = some (.cells #[.int .i64 a0_0, .int .i64 a0_1, .int .i64 a0_2, .int .i64 a0_3, .int .i64 a0_4, .int .i64 a0_5, (.slice A0_6 l0_6.length c0_6), (.slice A0_7 l0_7.length c0_7), (.slice (some ad132) l0_8.length c0_8)] 34 (0, 0))) ∧ Aside0 (Below w.heap.size w w'))
                  case atStart => exact ⟨(0), (by first | rfl | (simp; done) | (simp [*]; done)), H', ⟨Nat.le_refl _⟩, ⟨by (with_reducible repeat (first | refine blk_drewN ?_ _ | refine blk_drew ?_ | refine blk_alloc ?_ _)); exact BK131.out⟩, ⟨by repeat (first | (with_reducible first | exact HB.out | apply below_alloc | apply pw_below_drewN | apply below_drew1 | refine below_set ?_ GE131.out) | exact HB.out)⟩⟩
                  case round =>
                    clear H'
                    try clear c1
                    try clear p1
                    try clear q1
                    try clear hx1
                    try clear p2
                    try clear c4
                    try clear c4b0
                    try clear c4b1
                    try clear c6
                    try clear c6b0
                    try clear c6b1
                    try clear c9
                    try clear c10
                    try clear c10b0
                    try clear c11
                    try clear c11b0
                    try clear c12
                    try clear c12b0
                    try clear c12b1
                    try clear c13
                    try clear p13
                    try clear q13
                    try clear hx13
                    try clear hcz13_0
                    try clear hcz13_1
                    try clear hcz13_2
                    try clear hcz13_3
                    try clear hcz13_4
                    try clear hcz13_5
                    try clear hcz13_6
                    try clear hcz13_7
                    try clear hcz13_8
                    try clear hcz14_0
                    try clear hcz14_1
                    try clear hcz14_2
                    try clear hcz14_3
                    try clear hcz14_4
                    try clear hcz14_5
                    try clear hcz14_6
                    try clear hcz14_7
                    try clear hcz14_8
                    try clear hcz5_0
                    try clear hcz5_1
                    try clear hcz5_2
                    try clear hcz5_3
                    try clear hcz5_4
                    try clear hcz5_5
                    try clear hcz5_6
                    try clear hcz5_7
                    try clear hcz5_8
                    try clear hcz7_0
                    try clear hcz7_1
                    try clear hcz7_2
                    try clear hcz7_3
                    try clear hcz7_4
                    try clear hcz7_5
                    try clear hcz7_6
                    try clear hcz7_7
                    try clear hcz7_8
                    try clear hcz8_0
                    try clear hcz8_1
                    try clear hcz8_2
                    try clear hcz8_3
                    try clear hcz8_4
                    try clear hcz8_5
                    try clear hcz8_6
                    try clear hcz8_7
                    try clear hcz8_8
                    try clear hfz13_0
                    try clear hfz13_1
                    try clear hfz13_2
                    try clear hfz13_3
                    try clear hfz13_4
                    try clear hfz13_5
                    try clear hfz13_6
                    try clear hfz13_7
                    try clear hfz13_8
                    try clear hfz14_0
                    try clear hfz14_1
                    try clear hfz14_2
                    try clear hfz14_3
                    try clear hfz14_4
                    try clear hfz14_5
                    try clear hfz14_6
                    try clear hfz14_7
                    try clear hfz14_8
                    try clear hfz5_0
                    try clear hfz5_1
                    try clear hfz5_2
                    try clear hfz5_3
                    try clear hfz5_4
                    try clear hfz5_5
                    try clear hfz5_6
                    try clear hfz5_7
                    try clear hfz5_8
                    try clear hfz7_0
                    try clear hfz7_1
                    try clear hfz7_2
                    try clear hfz7_3
                    try clear hfz7_4
                    try clear hfz7_5
                    try clear hfz7_6
                    try clear hfz7_7
                    try clear hfz7_8
                    try clear hfz8_0
                    try clear hfz8_1
                    try clear hfz8_2
                    try clear hfz8_3
                    try clear hfz8_4
                    try clear hfz8_5
                    try clear hfz8_6
                    try clear hfz8_7
                    try clear hfz8_8
                    try clear hx132_0
                    try clear p132
                    try clear p2
                    try clear q132
                    obtain ⟨x4_3, rfl, HA, HK3, BK131, HB⟩ := hrel
                    cases gk with
                    | zero => exact absurd HA.out (by simp [quarrellaw16_Great.l1])
                    | succ k3 =>
                      have H := HA.out
                      clear HA
                      simp only [quarrellaw16_Great.l1] at H
                      by_cases c15 : 0 ≤ x3_2
                      · rw [if_pos c15] at H
                        have c15b0 : decide (0 ≤ x3_2) = true := decide_eq_true c15
                        clear c15
                        by_cases c16 : x3_2 < (l0_8.length : Int)
                        · rw [if_pos c16] at H
                          have c16b0 : decide (x3_2 < (l0_8.length : Int)) = true := decide_eq_true c16
                          clear c16
                          by_cases c17 : x4_3 < ((rd_L3 l0_8 x3_2).length : Int)
                          · rw [if_pos c17] at H
                            have c17b0 : decide (x4_3 < ((rd_L3 l0_8 x3_2).length : Int)) = true := decide_eq_true c17
                            clear c17
                            by_cases c18 : 0 ≤ x4_3
                            · rw [if_pos c18] at H
                              have c18b0 : decide (0 ≤ x4_3) = true := decide_eq_true c18
                              clear c18
                              by_cases c19 : ((rd_L2 (rd_L3 l0_8 x3_2) x4_3).length : Int) > 20
                              · rw [if_pos c19] at H
                                have c19b0 : decide (20 < ((rd_L2 (rd_L3 l0_8 x3_2) x4_3).length : Int)) = true := decide_eq_true c19
                                have c19b1 : decide (20 < (rd_L2 (rd_L3 l0_8 x3_2) x4_3).length) = true := decide_eq_true (by omega)
                                clear c19
                                obtain rfl := Option.some.inj H
                                have hcz20_0 : wr.cell? ⟨gb131, 0, none⟩ = some (.int .i64 a0_0) := (blk_cell BK131.out 0).trans rfl
                                have hcz20_1 : wr.cell? ⟨gb131, 1, none⟩ = some (.int .i64 a0_1) := (blk_cell BK131.out 1).trans rfl
                                have hcz20_2 : wr.cell? ⟨gb131, 2, none⟩ = some (.int .i64 a0_2) := (blk_cell BK131.out 2).trans rfl
                                have hcz20_3 : wr.cell? ⟨gb131, 3, none⟩ = some (.int .i64 a0_3) := (blk_cell BK131.out 3).trans rfl
                                have hcz20_4 : wr.cell? ⟨gb131, 4, none⟩ = some (.int .i64 a0_4) := (blk_cell BK131.out 4).trans rfl
                                have hcz20_5 : wr.cell? ⟨gb131, 5, none⟩ = some (.int .i64 a0_5) := (blk_cell BK131.out 5).trans rfl
                                have hcz20_6 : wr.cell? ⟨gb131, 6, none⟩ = some (.slice A0_6 l0_6.length c0_6) := (blk_cell BK131.out 6).trans rfl
                                have hcz20_7 : wr.cell? ⟨gb131, 7, none⟩ = some (.slice A0_7 l0_7.length c0_7) := (blk_cell BK131.out 7).trans rfl
                                have hcz20_8 : wr.cell? ⟨gb131, 8, none⟩ = some (.slice (some ad132) l0_8.length c0_8) := (blk_cell BK131.out 8).trans rfl
                                have hfz20_0 := blk_frozen BK131.out 0
                                have hfz20_1 := blk_frozen BK131.out 1
                                have hfz20_2 := blk_frozen BK131.out 2
                                have hfz20_3 := blk_frozen BK131.out 3
                                have hfz20_4 := blk_frozen BK131.out 4
                                have hfz20_5 := blk_frozen BK131.out 5
                                have hfz20_6 := blk_frozen BK131.out 6
                                have hfz20_7 := blk_frozen BK131.out 7
                                have hfz20_8 := blk_frozen BK131.out 8
                                have p133 : 0 ≤ (x3_2 : Int) := of_decide_eq_true (by first | (with_reducible assumption) | assumption)
                                have q133 : x3_2 < (l0_8.length : Int) := of_decide_eq_true (by first | (with_reducible assumption) | assumption)
                                obtain ⟨ad133, A133_0, c133_0, e133, hx133_0, hl133_0, hi133_0⟩ := at_L3 HR0_8.out x3_2 p133 q133
                                obtain rfl : ad132 = ad133 := (by injection e133)
                                replace hx133_0 := (HB.out.cell (World.block_lt_of_cell? w _ hx133_0)).trans hx133_0
                                have HR133_0 := Aside0.mk hi133_0
                                have HC133_0 := Aside0.mk hl133_0
                                clear hi133_0 hl133_0
                                replace p133 := eq_true p133
                                replace q133 := eq_true q133
                                have p134 : 0 ≤ (x3_2 : Int) := of_decide_eq_true (by first | (with_reducible assumption) | assumption)
                                have q134 : x3_2 < (l0_8.length : Int) := of_decide_eq_true (by first | (with_reducible assumption) | assumption)
                                obtain ⟨ad134, A134_0, c134_0, e134, hx134_0, hl134_0, hi134_0⟩ := at_L3 HR0_8.out x3_2 p134 q134
                                obtain rfl : ad132 = ad134 := (by injection e134)
                                replace hx134_0 := (HB.out.cell (World.block_lt_of_cell? w _ hx134_0)).trans hx134_0
                                have HR134_0 := Aside0.mk hi134_0
                                have HC134_0 := Aside0.mk hl134_0
                                clear hi134_0 hl134_0
                                replace p134 := eq_true p134
                                replace q134 := eq_true q134
                                have ea_ := Option.some.inj (hx133_0.symm.trans hx134_0)
                                injection ea_ with ea_ en_ ec_
                                subst ea_
                                subst ec_
                                clear en_
                                have p135 : 0 ≤ (x4_3 : Int) := of_decide_eq_true (by first | (with_reducible assumption) | assumption)
                                have q135 : x4_3 < ((rd_L3 l0_8 x3_2).length : Int) := of_decide_eq_true (by first | (with_reducible assumption) | assumption)
                                obtain ⟨ad135, A135_0, c135_0, e135, hx135_0, hl135_0, hi135_0⟩ := at_L2 HR134_0.out x4_3 p135 q135
                                cases e135
                                replace hx135_0 := (HB.out.cell (World.block_lt_of_cell? w _ hx135_0)).trans hx135_0
                                have HR135_0 := Aside0.mk hi135_0
                                have HC135_0 := Aside0.mk hl135_0
                                clear hi135_0 hl135_0
                                replace p135 := eq_true p135
                                replace q135 := eq_true q135
                                go_wp2
                                go_ret
                                exact ⟨by first | rfl | (simp [errW_none, errW_some] <;> rfl) | (simp [*, errW_none, errW_some] <;> rfl), by repeat (first | (with_reducible first | exact HB.out | apply below_alloc | apply pw_below_drewN | apply below_drew1 | refine below_set ?_ GE131.out) | exact HB.out)⟩
                              · rw [if_neg c19] at H
                                have c19b0 : decide (20 < ((rd_L2 (rd_L3 l0_8 x3_2) x4_3).length : Int)) = false := decide_eq_false c19
                                have c19b1 : decide (20 < (rd_L2 (rd_L3 l0_8 x3_2) x4_3).length) = false := decide_eq_false (by omega)
                                clear c19
                                have H' := Aside0.mk H
                                clear H
                                have hcz21_0 : wr.cell? ⟨gb131, 0, none⟩ = some (.int .i64 a0_0) := (blk_cell BK131.out 0).trans rfl
                                have hcz21_1 : wr.cell? ⟨gb131, 1, none⟩ = some (.int .i64 a0_1) := (blk_cell BK131.out 1).trans rfl
                                have hcz21_2 : wr.cell? ⟨gb131, 2, none⟩ = some (.int .i64 a0_2) := (blk_cell BK131.out 2).trans rfl
                                have hcz21_3 : wr.cell? ⟨gb131, 3, none⟩ = some (.int .i64 a0_3) := (blk_cell BK131.out 3).trans rfl
                                have hcz21_4 : wr.cell? ⟨gb131, 4, none⟩ = some (.int .i64 a0_4) := (blk_cell BK131.out 4).trans rfl
                                have hcz21_5 : wr.cell? ⟨gb131, 5, none⟩ = some (.int .i64 a0_5) := (blk_cell BK131.out 5).trans rfl
                                have hcz21_6 : wr.cell? ⟨gb131, 6, none⟩ = some (.slice A0_6 l0_6.length c0_6) := (blk_cell BK131.out 6).trans rfl
                                have hcz21_7 : wr.cell? ⟨gb131, 7, none⟩ = some (.slice A0_7 l0_7.length c0_7) := (blk_cell BK131.out 7).trans rfl
                                have hcz21_8 : wr.cell? ⟨gb131, 8, none⟩ = some (.slice (some ad132) l0_8.length c0_8) := (blk_cell BK131.out 8).trans rfl
                                have hfz21_0 := blk_frozen BK131.out 0
                                have hfz21_1 := blk_frozen BK131.out 1
                                have hfz21_2 := blk_frozen BK131.out 2
                                have hfz21_3 := blk_frozen BK131.out 3
                                have hfz21_4 := blk_frozen BK131.out 4
                                have hfz21_5 := blk_frozen BK131.out 5
                                have hfz21_6 := blk_frozen BK131.out 6
                                have hfz21_7 := blk_frozen BK131.out 7
                                have hfz21_8 := blk_frozen BK131.out 8
                                have p133 : 0 ≤ (x3_2 : Int) := of_decide_eq_true (by first | (with_reducible assumption) | assumption)
                                have q133 : x3_2 < (l0_8.length : Int) := of_decide_eq_true (by first | (with_reducible assumption) | assumption)
                                obtain ⟨ad133, A133_0, c133_0, e133, hx133_0, hl133_0, hi133_0⟩ := at_L3 HR0_8.out x3_2 p133 q133
                                obtain rfl : ad132 = ad133 := (by injection e133)
                                replace hx133_0 := (HB.out.cell (World.block_lt_of_cell? w _ hx133_0)).trans hx133_0
                                have HR133_0 := Aside0.mk hi133_0
                                have HC133_0 := Aside0.mk hl133_0
                                clear hi133_0 hl133_0
                                replace p133 := eq_true p133
                                replace q133 := eq_true q133
                                have p134 : 0 ≤ (x3_2 : Int) := of_decide_eq_true (by first | (with_reducible assumption) | assumption)
                                have q134 : x3_2 < (l0_8.length : Int) := of_decide_eq_true (by first | (with_reducible assumption) | assumption)
                                obtain ⟨ad134, A134_0, c134_0, e134, hx134_0, hl134_0, hi134_0⟩ := at_L3 HR0_8.out x3_2 p134 q134
                                obtain rfl : ad132 = ad134 := (by injection e134)
                                replace hx134_0 := (HB.out.cell (World.block_lt_of_cell? w _ hx134_0)).trans hx134_0
                                have HR134_0 := Aside0.mk hi134_0
                                have HC134_0 := Aside0.mk hl134_0
                                clear hi134_0 hl134_0
                                replace p134 := eq_true p134
                                replace q134 := eq_true q134
                                have ea_ := Option.some.inj (hx133_0.symm.trans hx134_0)
                                injection ea_ with ea_ en_ ec_
                                subst ea_
                                subst ec_
                                clear en_
                                have p135 : 0 ≤ (x4_3 : Int) := of_decide_eq_true (by first | (with_reducible assumption) | assumption)
                                have q135 : x4_3 < ((rd_L3 l0_8 x3_2).length : Int) := of_decide_eq_true (by first | (with_reducible assumption) | assumption)
                                obtain ⟨ad135, A135_0, c135_0, e135, hx135_0, hl135_0, hi135_0⟩ := at_L2 HR134_0.out x4_3 p135 q135
                                cases e135
                                replace hx135_0 := (HB.out.cell (World.block_lt_of_cell? w _ hx135_0)).trans hx135_0
                                have HR135_0 := Aside0.mk hi135_0
                                have HC135_0 := Aside0.mk hl135_0
                                clear hi135_0 hl135_0
                                replace p135 := eq_true p135
                                replace q135 := eq_true q135
                                go_wp2
                                go_roundg k3
                                case measure => have := HJ1.out; have := HK2.out; have := HK3.out; omega
                                case rel => exact ⟨(wrap64 (x4_3 + 1)), (by first | rfl | (simp; done) | (simp [*]; done)), H', ⟨by have := HJ1.out; have := HK2.out; have := HK3.out; omega⟩, ⟨by (with_reducible repeat (first | refine blk_drewN ?_ _ | refine blk_drew ?_ | refine blk_alloc ?_ _)); exact BK131.out⟩, ⟨by repeat (first | (with_reducible first | exact HB.out | apply below_alloc | apply pw_below_drewN | apply below_drew1 | refine below_set ?_ GE131.out) | exact HB.out)⟩⟩
                            · rw [if_neg c18] at H
                              exact absurd H (by simp)
                          · rw [if_neg c17] at H
                            have c17b0 : decide (x4_3 < ((rd_L3 l0_8 x3_2).length : Int)) = false := decide_eq_false c17
                            clear c17
                            have H' := Aside0.mk H
                            clear H
                            have hcz22_0 : wr.cell? ⟨gb131, 0, none⟩ = some (.int .i64 a0_0) := (blk_cell BK131.out 0).trans rfl
                            have hcz22_1 : wr.cell? ⟨gb131, 1, none⟩ = some (.int .i64 a0_1) := (blk_cell BK131.out 1).trans rfl
                            have hcz22_2 : wr.cell? ⟨gb131, 2, none⟩ = some (.int .i64 a0_2) := (blk_cell BK131.out 2).trans rfl
                            have hcz22_3 : wr.cell? ⟨gb131, 3, none⟩ = some (.int .i64 a0_3) := (blk_cell BK131.out 3).trans rfl
                            have hcz22_4 : wr.cell? ⟨gb131, 4, none⟩ = some (.int .i64 a0_4) := (blk_cell BK131.out 4).trans rfl
                            have hcz22_5 : wr.cell? ⟨gb131, 5, none⟩ = some (.int .i64 a0_5) := (blk_cell BK131.out 5).trans rfl
                            have hcz22_6 : wr.cell? ⟨gb131, 6, none⟩ = some (.slice A0_6 l0_6.length c0_6) := (blk_cell BK131.out 6).trans rfl
                            have hcz22_7 : wr.cell? ⟨gb131, 7, none⟩ = some (.slice A0_7 l0_7.length c0_7) := (blk_cell BK131.out 7).trans rfl
                            have hcz22_8 : wr.cell? ⟨gb131, 8, none⟩ = some (.slice (some ad132) l0_8.length c0_8) := (blk_cell BK131.out 8).trans rfl
                            have hfz22_0 := blk_frozen BK131.out 0
                            have hfz22_1 := blk_frozen BK131.out 1
                            have hfz22_2 := blk_frozen BK131.out 2
                            have hfz22_3 := blk_frozen BK131.out 3
                            have hfz22_4 := blk_frozen BK131.out 4
                            have hfz22_5 := blk_frozen BK131.out 5
                            have hfz22_6 := blk_frozen BK131.out 6
                            have hfz22_7 := blk_frozen BK131.out 7
                            have hfz22_8 := blk_frozen BK131.out 8
                            have p133 : 0 ≤ (x3_2 : Int) := of_decide_eq_true (by first | (with_reducible assumption) | assumption)
                            have q133 : x3_2 < (l0_8.length : Int) := of_decide_eq_true (by first | (with_reducible assumption) | assumption)
                            obtain ⟨ad133, A133_0, c133_0, e133, hx133_0, hl133_0, hi133_0⟩ := at_L3 HR0_8.out x3_2 p133 q133
                            obtain rfl : ad132 = ad133 := (by injection e133)
                            replace hx133_0 := (HB.out.cell (World.block_lt_of_cell? w _ hx133_0)).trans hx133_0
                            have HR133_0 := Aside0.mk hi133_0
                            have HC133_0 := Aside0.mk hl133_0
                            clear hi133_0 hl133_0
                            replace p133 := eq_true p133
                            replace q133 := eq_true q133
                            go_wp2
                            go_roundg k3
                            case measure => have := HJ1.out; have := HK2.out; have := HK3.out; omega
                            case rel => exact ⟨(wrap64 (x3_2 + 1)), (by first | rfl | (simp; done) | (simp [*]; done)), H', ⟨by have := HJ1.out; have := HK2.out; have := HK3.out; omega⟩, ⟨by (with_reducible repeat (first | refine blk_drewN ?_ _ | refine blk_drew ?_ | refine blk_alloc ?_ _)); exact BK131.out⟩, ⟨by repeat (first | (with_reducible first | exact HB.out | apply below_alloc | apply pw_below_drewN | apply below_drew1 | refine below_set ?_ GE131.out) | exact HB.out)⟩⟩
                        · rw [if_neg c16] at H
                          exact absurd H (by simp)
                      · rw [if_neg c15] at H
                        exact absurd H (by simp)
              · rw [if_neg c11] at H
                exact absurd H (by simp)
            · rw [if_neg c10] at H
              have c10b0 : decide (x3_2 < (l0_8.length : Int)) = false := decide_eq_false c10
              clear c10
              obtain rfl := Option.some.inj H
              have hcz23_0 : wr.cell? ⟨gb131, 0, none⟩ = some (.int .i64 a0_0) := (blk_cell BK131.out 0).trans rfl
              have hcz23_1 : wr.cell? ⟨gb131, 1, none⟩ = some (.int .i64 a0_1) := (blk_cell BK131.out 1).trans rfl
              have hcz23_2 : wr.cell? ⟨gb131, 2, none⟩ = some (.int .i64 a0_2) := (blk_cell BK131.out 2).trans rfl
              have hcz23_3 : wr.cell? ⟨gb131, 3, none⟩ = some (.int .i64 a0_3) := (blk_cell BK131.out 3).trans rfl
              have hcz23_4 : wr.cell? ⟨gb131, 4, none⟩ = some (.int .i64 a0_4) := (blk_cell BK131.out 4).trans rfl
              have hcz23_5 : wr.cell? ⟨gb131, 5, none⟩ = some (.int .i64 a0_5) := (blk_cell BK131.out 5).trans rfl
              have hcz23_6 : wr.cell? ⟨gb131, 6, none⟩ = some (.slice A0_6 l0_6.length c0_6) := (blk_cell BK131.out 6).trans rfl
              have hcz23_7 : wr.cell? ⟨gb131, 7, none⟩ = some (.slice A0_7 l0_7.length c0_7) := (blk_cell BK131.out 7).trans rfl
              have hcz23_8 : wr.cell? ⟨gb131, 8, none⟩ = some (.slice A0_8 l0_8.length c0_8) := (blk_cell BK131.out 8).trans rfl
              have hfz23_0 := blk_frozen BK131.out 0
              have hfz23_1 := blk_frozen BK131.out 1
              have hfz23_2 := blk_frozen BK131.out 2
              have hfz23_3 := blk_frozen BK131.out 3
              have hfz23_4 := blk_frozen BK131.out 4
              have hfz23_5 := blk_frozen BK131.out 5
              have hfz23_6 := blk_frozen BK131.out 6
              have hfz23_7 := blk_frozen BK131.out 7
              have hfz23_8 := blk_frozen BK131.out 8
              go_wp2
              go_ret
              exact ⟨by first | rfl | (simp [errW_none, errW_some] <;> rfl) | (simp [*, errW_none, errW_some] <;> rfl), by repeat (first | (with_reducible first | exact HB.out | apply below_alloc | apply pw_below_drewN | apply below_drew1 | refine below_set ?_ GE131.out) | exact HB.out)⟩

/-! ### quarrelref23_held: function 18 -/
def quarrelref23_held.f (a0 : Int) (a1 : Int) : Option (Int) := if a0 < 0 then (some 0) else (if a0 > a1 then (some a1) else (some a0))
set_option maxHeartbeats 8000000 in
set_option maxRecDepth 100000 in
theorem quarrelref23_held.calls (a0 : Int) (a1 : Int) (r : Int) (w : World) (h : quarrelref23_held.f a0 a1 = some r) :
    Calls Try.prog 18 #[.int .i64 a0, .int .i64 a1] w fun e w' => e = .returned (.int .i64 r) ∧ Drawn0 w w' := by
  have H : (if a0 < 0 then (some 0) else (if a0 > a1 then (some a1) else (some a0))) = some r := h
  clear h
  by_cases c3 : a0 < 0
  · rw [if_pos c3] at H
    have c3b0 : decide (a0 < 0) = true := decide_eq_true c3
    clear c3
    obtain rfl := Option.some.inj H
    go_enter Try.func18, Try.ntmps18
    go_wp2
    go_ret
    exact ⟨by first | rfl | (simp; done) | (simp [*]; done), by repeat (first | exact Drawn0.refl _ | apply Drawn0.step)⟩
  · rw [if_neg c3] at H
    have c3b0 : decide (a0 < 0) = false := decide_eq_false c3
    clear c3
    by_cases c4 : a0 > a1
    · rw [if_pos c4] at H
      have c4b0 : decide (a1 < a0) = true := decide_eq_true c4
      clear c4
      obtain rfl := Option.some.inj H
      go_enter Try.func18, Try.ntmps18
      go_wp2
      go_ret
      exact ⟨by first | rfl | (simp; done) | (simp [*]; done), by repeat (first | exact Drawn0.refl _ | apply Drawn0.step)⟩
    · rw [if_neg c4] at H
      have c4b0 : decide (a1 < a0) = false := decide_eq_false c4
      clear c4
      obtain rfl := Option.some.inj H
      go_enter Try.func18, Try.ntmps18
      go_wp2
      go_ret
      exact ⟨by first | rfl | (simp; done) | (simp [*]; done), by repeat (first | exact Drawn0.refl _ | apply Drawn0.step)⟩

/-! ### quarrelref23_Solo: function 11 -/
def quarrelref23_Solo.f (a0 : Int) (a1 : Int) : Option (Int) := (quarrelref23_held.f a0 8).bind fun t136 => ((quarrelref23_held.f a1 64).bind fun t137 => (some (wrap64 (100 * (wrap64 ((wrap64 ((wrap64 (t136 * t136)) + (wrap64 (t136 * t137)))) + 1))))))
set_option maxHeartbeats 8000000 in
set_option maxRecDepth 100000 in
theorem quarrelref23_Solo.calls (a0 : Int) (a1 : Int) (r : Int) (w : World) (h : quarrelref23_Solo.f a0 a1 = some r) :
    Calls Try.prog 11 #[.int .i64 a0, .int .i64 a1] w fun e w' => e = .returned (.int .i64 r) ∧ Drawn0 w w' := by
  have H : ((quarrelref23_held.f a0 8).bind fun t136 => ((quarrelref23_held.f a1 64).bind fun t137 => (some (wrap64 (100 * (wrap64 ((wrap64 ((wrap64 (t136 * t136)) + (wrap64 (t136 * t137)))) + 1))))))) = some r := h
  clear h
  replace H := Option.bind_eq_some_iff.mp H
  obtain ⟨t136, A30, H⟩ := H
  replace H : ((quarrelref23_held.f a1 64).bind fun t137 => (some (wrap64 (100 * (wrap64 ((wrap64 ((wrap64 (t136 * t136)) + (wrap64 (t136 * t137)))) + 1)))))) = some r := H
  have A3 := Aside0.mk A30
  clear A30
  replace H := Option.bind_eq_some_iff.mp H
  obtain ⟨t137, A40, H⟩ := H
  replace H : (some (wrap64 (100 * (wrap64 ((wrap64 ((wrap64 (t136 * t136)) + (wrap64 (t136 * t137)))) + 1))))) = some r := H
  have A4 := Aside0.mk A40
  clear A40
  obtain rfl := Option.some.inj H
  go_enter Try.func11, Try.ntmps11
  go_wp2_with (first | ((with_reducible refine gate_callee (f := 18) rfl ?_); refine goesL_ (some 6) rfl rfl Try.func18 (by kernel_rfl) rfl #[.int .i64 a0, .int .i64 8] rfl (by (try simp only [List.map_toArray, List.map_cons, List.map_nil]); first | done | rfl | (simp only [List.length_drop, List.length_take]; rfl)) ?_; (with_reducible refine (quarrelref23_held.calls a0 8 t136 _ A3.out).mono ?_); rintro e w' ⟨rfl, ⟨nd, rfl⟩⟩; refine ⟨_, rfl, ?_⟩) | ((with_reducible refine gate_callee (f := 18) rfl ?_); refine goesL_ (some 8) rfl rfl Try.func18 (by kernel_rfl) rfl #[.int .i64 a1, .int .i64 64] rfl (by (try simp only [List.map_toArray, List.map_cons, List.map_nil]); first | done | rfl | (simp only [List.length_drop, List.length_take]; rfl)) ?_; (with_reducible refine (quarrelref23_held.calls a1 64 t137 _ A4.out).mono ?_); rintro e w' ⟨rfl, ⟨nd, rfl⟩⟩; refine ⟨_, rfl, ?_⟩))
  go_ret
  exact ⟨by first | rfl | (simp; done) | (simp [*]; done), by repeat (first | exact Drawn0.refl _ | apply Drawn0.step)⟩

/-! ### quarrelref23_Need: function 12 -/
def quarrelref23_Need.f (a0 : Int) : Option (Int) := (quarrelref23_held.f a0 8).bind fun t138 => (some (wrap64 ((wrap64 (6 * t138)) + 6)))
set_option maxHeartbeats 8000000 in
set_option maxRecDepth 100000 in
theorem quarrelref23_Need.calls (a0 : Int) (r : Int) (w : World) (h : quarrelref23_Need.f a0 = some r) :
    Calls Try.prog 12 #[.int .i64 a0] w fun e w' => e = .returned (.int .i64 r) ∧ Drawn0 w w' := by
  have H : ((quarrelref23_held.f a0 8).bind fun t138 => (some (wrap64 ((wrap64 (6 * t138)) + 6)))) = some r := h
  clear h
  replace H := Option.bind_eq_some_iff.mp H
  obtain ⟨t138, A20, H⟩ := H
  replace H : (some (wrap64 ((wrap64 (6 * t138)) + 6))) = some r := H
  have A2 := Aside0.mk A20
  clear A20
  obtain rfl := Option.some.inj H
  go_enter Try.func12, Try.ntmps12
  go_wp2_with (first | ((with_reducible refine gate_callee (f := 18) rfl ?_); refine goesL_ (some 4) rfl rfl Try.func18 (by kernel_rfl) rfl #[.int .i64 a0, .int .i64 8] rfl (by (try simp only [List.map_toArray, List.map_cons, List.map_nil]); first | done | rfl | (simp only [List.length_drop, List.length_take]; rfl)) ?_; (with_reducible refine (quarrelref23_held.calls a0 8 t138 _ A2.out).mono ?_); rintro e w' ⟨rfl, ⟨nd, rfl⟩⟩; refine ⟨_, rfl, ?_⟩))
  go_ret
  exact ⟨by first | rfl | (simp; done) | (simp [*]; done), by repeat (first | exact Drawn0.refl _ | apply Drawn0.step)⟩

/-! ### quarrelref23_Whole: function 13 -/
def quarrelref23_Whole.f (a0 : Int) (a1 : Int) (a2 : Int) : Option (Int) := (quarrelref23_held.f a1 8).bind fun t139 => ((quarrelref23_held.f a2 64).bind fun t140 => ((quarrelref23_held.f a0 6).bind fun t141 => (some (wrap64 ((wrap64 ((wrap64 ((wrap64 (64 * t140)) * (wrap64 (t139 + 1)))) * (wrap64 (t139 + 1)))) * (wrap64 (t141 + 1)))))))
set_option maxHeartbeats 8000000 in
set_option maxRecDepth 100000 in
theorem quarrelref23_Whole.calls (a0 : Int) (a1 : Int) (a2 : Int) (r : Int) (w : World) (h : quarrelref23_Whole.f a0 a1 a2 = some r) :
    Calls Try.prog 13 #[.int .i64 a0, .int .i64 a1, .int .i64 a2] w fun e w' => e = .returned (.int .i64 r) ∧ Drawn0 w w' := by
  have H : ((quarrelref23_held.f a1 8).bind fun t139 => ((quarrelref23_held.f a2 64).bind fun t140 => ((quarrelref23_held.f a0 6).bind fun t141 => (some (wrap64 ((wrap64 ((wrap64 ((wrap64 (64 * t140)) * (wrap64 (t139 + 1)))) * (wrap64 (t139 + 1)))) * (wrap64 (t141 + 1)))))))) = some r := h
  clear h
  replace H := Option.bind_eq_some_iff.mp H
  obtain ⟨t139, A40, H⟩ := H
  replace H : ((quarrelref23_held.f a2 64).bind fun t140 => ((quarrelref23_held.f a0 6).bind fun t141 => (some (wrap64 ((wrap64 ((wrap64 ((wrap64 (64 * t140)) * (wrap64 (t139 + 1)))) * (wrap64 (t139 + 1)))) * (wrap64 (t141 + 1))))))) = some r := H
  have A4 := Aside0.mk A40
  clear A40
  replace H := Option.bind_eq_some_iff.mp H
  obtain ⟨t140, A50, H⟩ := H
  replace H : ((quarrelref23_held.f a0 6).bind fun t141 => (some (wrap64 ((wrap64 ((wrap64 ((wrap64 (64 * t140)) * (wrap64 (t139 + 1)))) * (wrap64 (t139 + 1)))) * (wrap64 (t141 + 1)))))) = some r := H
  have A5 := Aside0.mk A50
  clear A50
  replace H := Option.bind_eq_some_iff.mp H
  obtain ⟨t141, A60, H⟩ := H
  replace H : (some (wrap64 ((wrap64 ((wrap64 ((wrap64 (64 * t140)) * (wrap64 (t139 + 1)))) * (wrap64 (t139 + 1)))) * (wrap64 (t141 + 1))))) = some r := H
  have A6 := Aside0.mk A60
  clear A60
  obtain rfl := Option.some.inj H
  go_enter Try.func13, Try.ntmps13
  go_wp2_with (first | ((with_reducible refine gate_callee (f := 18) rfl ?_); refine goesL_ (some 8) rfl rfl Try.func18 (by kernel_rfl) rfl #[.int .i64 a1, .int .i64 8] rfl (by (try simp only [List.map_toArray, List.map_cons, List.map_nil]); first | done | rfl | (simp only [List.length_drop, List.length_take]; rfl)) ?_; (with_reducible refine (quarrelref23_held.calls a1 8 t139 _ A4.out).mono ?_); rintro e w' ⟨rfl, ⟨nd, rfl⟩⟩; refine ⟨_, rfl, ?_⟩) | ((with_reducible refine gate_callee (f := 18) rfl ?_); refine goesL_ (some 10) rfl rfl Try.func18 (by kernel_rfl) rfl #[.int .i64 a2, .int .i64 64] rfl (by (try simp only [List.map_toArray, List.map_cons, List.map_nil]); first | done | rfl | (simp only [List.length_drop, List.length_take]; rfl)) ?_; (with_reducible refine (quarrelref23_held.calls a2 64 t140 _ A5.out).mono ?_); rintro e w' ⟨rfl, ⟨nd, rfl⟩⟩; refine ⟨_, rfl, ?_⟩) | ((with_reducible refine gate_callee (f := 18) rfl ?_); refine goesL_ (some 19) rfl rfl Try.func18 (by kernel_rfl) rfl #[.int .i64 a0, .int .i64 6] rfl (by (try simp only [List.map_toArray, List.map_cons, List.map_nil]); first | done | rfl | (simp only [List.length_drop, List.length_take]; rfl)) ?_; (with_reducible refine (quarrelref23_held.calls a0 6 t141 _ A6.out).mono ?_); rintro e w' ⟨rfl, ⟨nd, rfl⟩⟩; refine ⟨_, rfl, ?_⟩))
  go_ret
  exact ⟨by first | rfl | (simp; done) | (simp [*]; done), by repeat (first | exact Drawn0.refl _ | apply Drawn0.step)⟩

end Go.Proofs.Ytmolkkidnkgglaa.PBoundTells
