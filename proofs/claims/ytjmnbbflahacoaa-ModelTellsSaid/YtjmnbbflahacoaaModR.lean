/- The document's Fits and Apply, walked. No condition. -/
import Derived.Test.YtjmnbbflahacoaaRefX
import Derived.Test.YtjmnbbflahacoaaModF
namespace Go.Proofs.Ytjmnbbflahacoaa.Model
open Go.RowKit Go.Proofs.Ytjmnbbflahacoaa.Mem Go.Proofs.Ytjmnbbflahacoaa.Hist Go.Proofs.Ytjmnbbflahacoaa.PHistTells Go.Proofs.YtjmnbbflahacoaaW.PrintWords
set_option linter.unusedVariables false
set_option linter.unusedSimpArgs false

set_option maxHeartbeats 8000000 in
set_option maxRecDepth 100000 in
theorem reffits_any (w : World) (A : Option Addr) (c : Nat) (vs : List Int) (t : Tr) (A8 : Option Addr) (c8 : Nat) (hC : kI.C w A vs.length vs) (hl : vs.length ≤ 1000000) (hT : kAcc.C w A8 t.f8.length t.f8) (ht : t.f8.length ≤ 1000000) :
    Calls Try.prog 39 #[.slice A vs.length c, .agg #[.int .i64 t.f0, .int .i64 t.f1, .int .i64 t.f2, .int .i64 t.f3, .int .i64 t.f4, .int .i64 t.f5, .int .i64 t.f6, .bool t.f7, .slice A8 t.f8.length c8]] w
      fun e w' => e = .returned (.bool (fitsM vs t.f8)) ∧ Below w.heap.size w w' := by
  have HC := Veil.mk hC
  have HL := Veil.mk hl
  have HT := Veil.mk hT
  have HTL := Veil.mk ht
  have HX1 := Veil.mk (Blk.new w #[.int .i64 t.f0, .int .i64 t.f1, .int .i64 t.f2, .int .i64 t.f3, .int .i64 t.f4, .int .i64 t.f5, .int .i64 t.f6, .bool t.f7, .slice A8 t.f8.length c8] 43)
  have HB1 := Veil.mk ((Below.refl w.heap.size w).alloc (Nat.le_refl _) (.cells #[.int .i64 t.f0, .int .i64 t.f1, .int .i64 t.f2, .int .i64 t.f3, .int .i64 t.f4, .int .i64 t.f5, .int .i64 t.f6, .bool t.f7, .slice A8 t.f8.length c8] 43))
  clear hC hl hT ht
  go_enter Try.func39, Try.ntmps39
  go_wp2
  generalize w.alloc (.cells #[.int .i64 t.f0, .int .i64 t.f1, .int .i64 t.f2, .int .i64 t.f3, .int .i64 t.f4, .int .i64 t.f5, .int .i64 t.f6, .bool t.f7, .slice A8 t.f8.length c8] 43) = w1 at *
  go_loopw [5] (fun v5 wr => ∃ i : Nat, i ≤ t.f8.length ∧ v5 = .int .i64 i ∧ Veil (fitsUpTo vs t.f8 i = true) ∧ Veil (Below w1.heap.size w1 wr)) (fun v5 _ => t.f8.length - (intOf v5).toNat)
  case atStart => exact ⟨0, Nat.zero_le _, rfl, ⟨rfl⟩, ⟨Below.refl _ _⟩⟩
  case round =>
    obtain ⟨i, hi, rfl, HF, HB⟩ := hrel
    have htl := HTL.out
    have hvl := HL.out
    have p8 := (HX1.out.below HB.out HX1.out.lt).cell 8 _ rfl
    have HBW := Veil.mk (below_of HB1.out HB.out)
    by_cases hlt : i < t.f8.length
    · have d1 : decide ((i : Int) < (t.f8.length : Int)) = true := decide_eq_true (by omega)
      have d2 : (i : Int) < (t.f8.length : Int) := by omega
      obtain ⟨ad, rfl, h0, h1, h2, h3, h4, h5⟩ := acc_at (Kd.C_below HT.out HBW.out) i hlt
      have HN := Veil.mk (fitsUpTo_next vs t.f8 hlt)
      have HNO := Veil.mk (fits_no vs t.f8 hlt)
      obtain ⟨a, ha⟩ : ∃ a, t.f8[i] = a := ⟨_, rfl⟩
      rw [ha] at h0 h1 h2 h3 h4 h5 HN HNO
      clear ha
      obtain ⟨a0, a1, a2, a3, a4, a5⟩ := a
      dsimp only at h0 h1 h2 h3 h4 h5
      have HBA := Veil.mk (HB.out.alloc HB.out.size (.cells #[.int .i64 a0, .int .i64 a1, .int .i64 a2, .int .i64 a3, .bool a4, .bool a5] 94))
      have HXA := Veil.mk (Blk.new wr #[.int .i64 a0, .int .i64 a1, .int .i64 a2, .int .i64 a3, .bool a4, .bool a5] 94)
      by_cases e2 : a1 = 2
      · have m2 : (a1 != 2) = false := by simp [e2]
        cases a5 with
        | true =>
          have HK : Veil (fitsUpTo vs t.f8 (i + 1) = true) := ⟨by rw [HN.out, HF.out, okAt_rel]; rfl⟩
          clear e2
          go_wp2
          exact ⟨⟨i + 1, by omega, by go_num, HK, HBA⟩, by simp [intOf]; omega⟩
        | false =>
          have HOWN := Veil.mk (fun v => okAt_own vs (t.f8.take i) a0 a1 a2 a3 a4 (v := v) e2)
          have HNOT := Veil.mk (okAt_not vs (t.f8.take i) a0 a1 a2 a3 a4 e2)
          clear e2
          go_wp2_with fail
          clear p8 h0 h1 h2 h3 h4 h5
          go_loopw [7, 8, 9] (fun v7 v8 v9 wx => ∃ k : Nat, k ≤ i ∧ v9 = .int .i64 k ∧ v8 = .bool (ownOf (t.f8.take k) a2).isSome ∧ v7 = .int .i64 ((ownOf (t.f8.take k) a2).getD 0) ∧ Veil (Below w1.heap.size w1 wx) ∧ Veil (Blk wx wr.heap.size 94 [.int .i64 a0, .int .i64 a1, .int .i64 a2, .int .i64 a3, .bool a4, .bool false])) (fun _ _ v9 _ => i - (intOf v9).toNat)
          case atStart => exact ⟨0, Nat.zero_le _, rfl, rfl, rfl, HBA, HXA⟩
          case round =>
            obtain ⟨k, hk, rfl, rfl, rfl, HBX, HXX⟩ := hrel
            have y2 := HXX.out.cell 2 _ rfl
            have y3 := HXX.out.cell 3 _ rfl
            have y4 := HXX.out.cell 4 _ rfl
            by_cases hki : k < i
            · have d3 : decide ((k : Int) < (i : Int)) = true := decide_eq_true (by omega)
              have d4 : decide (k < i) = true := decide_eq_true hki
              have d5 : (k : Int) < (t.f8.length : Int) := by omega
              have p8 := (HX1.out.below HBX.out HX1.out.lt).cell 8 _ rfl
              have HBXW := Veil.mk (below_of HB1.out HBX.out)
              obtain ⟨ae, hae, z0, z1, z2, z3, z4, z5⟩ := acc_at (Kd.C_below HT.out HBXW.out) k (by omega)
              injection hae with hae
              subst hae
              have HNX : Veil (ownOf (t.f8.take (k + 1)) a2 = if t.f8[k].f1 = 3 ∧ t.f8[k].f2 = a2 then some t.f8[k].f3 else ownOf (t.f8.take k) a2) := ⟨by rw [List.take_succ_eq_append_getElem (by omega), ownOf_snoc]⟩
              obtain ⟨b, hb⟩ : ∃ b, t.f8[k] = b := ⟨_, rfl⟩
              rw [hb] at z0 z1 z2 z3 z4 z5 HNX
              clear hb z0 z4 z5
              cases m0 : (b.f1 == 3) with
              | false =>
                have HQ : Veil (ownOf (t.f8.take (k + 1)) a2 = ownOf (t.f8.take k) a2) := ⟨by rw [HNX.out, if_neg (fun h => by rw [h.1] at m0; simp at m0)]⟩
                go_wp2_with fail
                go_quiet (fail)
                go_wp2
                exact ⟨⟨k + 1, by omega, by go_num, by rw [HQ.out], by rw [HQ.out], ⟨HBX.out.drewN _⟩, ⟨HXX.out.drewN _⟩⟩, by simp [intOf]; omega⟩
              | true =>
                cases m1 : (b.f2 == a2) with
                | false =>
                  have HQ : Veil (ownOf (t.f8.take (k + 1)) a2 = ownOf (t.f8.take k) a2) := ⟨by rw [HNX.out, if_neg (fun h => by rw [h.2] at m1; simp at m1)]⟩
                  go_wp2_with fail
                  go_quiet (fail)
                  go_wp2
                  exact ⟨⟨k + 1, by omega, by go_num, by rw [HQ.out], by rw [HQ.out], ⟨HBX.out.drewN _⟩, ⟨HXX.out.drewN _⟩⟩, by simp [intOf]; omega⟩
                | true =>
                  have HQ : Veil (ownOf (t.f8.take (k + 1)) a2 = some b.f3) := ⟨by rw [HNX.out, if_pos ⟨by simpa using m0, by simpa using m1⟩]⟩
                  go_wp2_with fail
                  go_quiet (fail)
                  go_wp2
                  exact ⟨⟨k + 1, by omega, by go_num, by rw [HQ.out]; rfl, by rw [HQ.out]; rfl, ⟨HBX.out.drewN _⟩, ⟨HXX.out.drewN _⟩⟩, by simp [intOf]; omega⟩
            · have d3 : decide ((k : Int) < (i : Int)) = false := decide_eq_false (by omega)
              have d4 : decide (k < i) = false := decide_eq_false hki
              obtain rfl : k = i := by omega
              cases ho : ownOf (t.f8.take k) a2 with
              | some v =>
                have HOK := Veil.mk (HOWN.out v ho)
                simp only [Option.getD_some, Option.isSome_some]
                clear ho
                cases a4 with
                | false =>
                  have HNF : Veil (fitsM vs t.f8 = false) := ⟨HNO.out (by rw [HOK.out]; rfl)⟩
                  go_wp2
                  go_ret
                  exact ⟨by rw [HNF.out]; (try rfl), below_of HB1.out HBX.out⟩
                | true =>
                  by_cases e3 : v = a3
                  · have m3 : (v != a3) = false := by simp [e3]
                    have HK : Veil (fitsUpTo vs t.f8 (k + 1) = true) := ⟨by rw [HN.out, HF.out, HOK.out, e3]; simp⟩
                    clear e3
                    go_wp2
                    exact ⟨⟨k + 1, by omega, by go_num, HK, HBX⟩, by simp [intOf]; omega⟩
                  · have m3 : (v != a3) = true := by simp [e3]
                    have HNF : Veil (fitsM vs t.f8 = false) := ⟨HNO.out (by rw [HOK.out]; simpa using e3)⟩
                    clear e3
                    go_wp2
                    go_ret
                    exact ⟨by rw [HNF.out]; (try rfl), below_of HB1.out HBX.out⟩
              | none =>
                have HOK := Veil.mk (HNOT.out ho)
                simp only [Option.getD_none, Option.isSome_none]
                clear ho
                by_cases e3 : a2 < 0
                · have m3 : decide (a2 < 0) = true := decide_eq_true e3
                  have HNF : Veil (fitsM vs t.f8 = false) := ⟨HNO.out (by rw [HOK.out]; unfold valAt; rw [if_neg (by omega)]; simp)⟩
                  go_wp2
                  go_ret
                  exact ⟨by rw [HNF.out]; (try rfl), below_of HB1.out HBX.out⟩
                · have m3 : decide (a2 < 0) = false := decide_eq_false e3
                  by_cases e6 : (vs.length : Int) ≤ a2
                  · have m6 : decide ((vs.length : Int) ≤ a2) = true := decide_eq_true e6
                    have HNF : Veil (fitsM vs t.f8 = false) := ⟨HNO.out (by rw [HOK.out]; unfold valAt; rw [if_pos (by omega), List.getElem?_eq_none (by omega)]; simp)⟩
                    go_wp2
                    go_ret
                    exact ⟨by rw [HNF.out]; (try rfl), below_of HB1.out HBX.out⟩
                  · have m6 : decide ((vs.length : Int) ≤ a2) = false := decide_eq_false e6
                    obtain ⟨av, x, rfl, x0, hx⟩ := valsAt (Kd.C_below HC.out (below_of HB1.out HBX.out)) a2 (by omega) (by omega)
                    have e7 : 0 ≤ a2 := by omega
                    have e8 : a2 < (vs.length : Int) := by omega
                    rw [hx] at HOK
                    clear hx
                    cases a4 with
                    | true =>
                      have HNF : Veil (fitsM vs t.f8 = false) := ⟨HNO.out (by rw [HOK.out]; rfl)⟩
                      go_wp2
                      go_ret
                      exact ⟨by rw [HNF.out]; (try rfl), below_of HB1.out HBX.out⟩
                    | false =>
                      by_cases e9 : x = a3
                      · have m9 : (x != a3) = false := by simp [e9]
                        have HK : Veil (fitsUpTo vs t.f8 (k + 1) = true) := ⟨by rw [HN.out, HF.out, HOK.out, e9]; simp⟩
                        clear e9
                        go_wp2
                        exact ⟨⟨k + 1, by omega, by go_num, HK, HBX⟩, by simp [intOf]; omega⟩
                      · have m9 : (x != a3) = true := by simp [e9]
                        have HNF : Veil (fitsM vs t.f8 = false) := ⟨HNO.out (by rw [HOK.out]; simpa using e9)⟩
                        clear e9
                        go_wp2
                        go_ret
                        exact ⟨by rw [HNF.out]; (try rfl), below_of HB1.out HBX.out⟩
      · have m2 : (a1 != 2) = true := by simp [e2]
        have HK : Veil (fitsUpTo vs t.f8 (i + 1) = true) := ⟨by rw [HN.out, HF.out, okAt_other _ _ _ _ _ _ _ _ e2]; rfl⟩
        clear e2
        go_wp2
        exact ⟨⟨i + 1, by omega, by go_num, HK, HBA⟩, by simp [intOf]; omega⟩
    · have d1 : decide ((i : Int) < (t.f8.length : Int)) = false := decide_eq_false (by omega)
      have HE : Veil (fitsM vs t.f8 = true) := ⟨by unfold fitsM; rw [← show i = t.f8.length by omega]; exact HF.out⟩
      go_wp2
      go_ret
      exact ⟨by rw [HE.out]; rfl, HBW.out⟩
theorem lastW_next (l : List Acc) (o : Nat) (d : Int) {k : Nat} (h : k < l.length) : lastW (l.take (k + 1)) o d = one1 o (lastW (l.take k) o d) l[k] := by
  unfold lastW
  rw [List.take_succ_eq_append_getElem h, List.foldl_append]
  rfl
theorem applyM_take (vs : List Int) (l : List Acc) {o : Nat} (h : o < vs.length) : (applyM vs l).take (o + 1) = (applyM vs l).take o ++ [lastW l o vs[o]] := by
  have hl : o < (applyM vs l).length := by rw [applyM_length]; exact h
  rw [List.take_succ_eq_append_getElem hl]
  congr 2
  have := applyM_get l vs o
  rw [List.getElem?_eq_getElem hl, List.getElem?_eq_getElem h] at this
  simpa using this
set_option maxHeartbeats 8000000 in
set_option maxRecDepth 100000 in
theorem refapply_any (w : World) (A : Option Addr) (c : Nat) (vs : List Int) (t : Tr) (A8 : Option Addr) (c8 : Nat) (hC : kI.C w A vs.length vs) (hl : vs.length ≤ 1000000) (hT : kAcc.C w A8 t.f8.length t.f8) (ht : t.f8.length ≤ 1000000) :
    Calls Try.prog 37 #[.slice A vs.length c, .agg #[.int .i64 t.f0, .int .i64 t.f1, .int .i64 t.f2, .int .i64 t.f3, .int .i64 t.f4, .int .i64 t.f5, .int .i64 t.f6, .bool t.f7, .slice A8 t.f8.length c8]] w
      fun e w' => ∃ v, e = .returned v ∧ kI.R 2 w' w.heap.size (fun _ => True) v (applyM vs t.f8) ∧ Below w.heap.size w w' := by
  have HC := Veil.mk hC
  have HL := Veil.mk hl
  have HT := Veil.mk hT
  have HTL := Veil.mk ht
  have HX1 := Veil.mk (Blk.new w #[.int .i64 t.f0, .int .i64 t.f1, .int .i64 t.f2, .int .i64 t.f3, .int .i64 t.f4, .int .i64 t.f5, .int .i64 t.f6, .bool t.f7, .slice A8 t.f8.length c8] 43)
  have HB1 := Veil.mk ((Below.refl w.heap.size w).alloc (Nat.le_refl _) (.cells #[.int .i64 t.f0, .int .i64 t.f1, .int .i64 t.f2, .int .i64 t.f3, .int .i64 t.f4, .int .i64 t.f5, .int .i64 t.f6, .bool t.f7, .slice A8 t.f8.length c8] 43))
  clear hC hl hT ht
  go_enter Try.func37, Try.ntmps37
  go_wp2
  generalize w.alloc (.cells #[.int .i64 t.f0, .int .i64 t.f1, .int .i64 t.f2, .int .i64 t.f3, .int .i64 t.f4, .int .i64 t.f5, .int .i64 t.f6, .bool t.f7, .slice A8 t.f8.length c8] 43) = w1 at *
  go_loopw [5, 6] (fun v5 v6 wr => ∃ o : Nat, o ≤ vs.length ∧ v6 = .int .i64 o ∧ Veil (kI.R 2 wr w1.heap.size (fun _ => True) v5 ((applyM vs t.f8).take o)) ∧ Veil (Below w1.heap.size w1 wr)) (fun _ v6 _ => vs.length - (intOf v6).toNat)
  case atStart => exact ⟨0, Nat.zero_le _, rfl, ⟨by rw [List.take_zero]; exact Kd.R_nil _ _ _ _ _⟩, ⟨Below.refl _ _⟩⟩
  case round =>
    obtain ⟨o, ho, rfl, HO, HB⟩ := hrel
    have htl := HTL.out
    have hvl := HL.out
    have HBW := Veil.mk (below_of HB1.out HB.out)
    by_cases hlt : o < vs.length
    · have d1 : decide ((o : Int) < (vs.length : Int)) = true := decide_eq_true (by omega)
      have d2 : (o : Int) < (vs.length : Int) := by omega
      obtain ⟨av, rfl, x0⟩ := int_at (Kd.C_below HC.out HBW.out) o hlt
      have HN := Veil.mk (applyM_take vs t.f8 hlt)
      obtain ⟨x, hx⟩ : ∃ x, vs[o] = x := ⟨_, rfl⟩
      rw [hx] at x0 HN
      clear hx
      go_wp2_with fail
      go_loopw [7, 8] (fun v7 v8 wx => ∃ k : Nat, k ≤ t.f8.length ∧ v8 = .int .i64 k ∧ v7 = .int .i64 (lastW (t.f8.take k) o x) ∧ Veil (Below wr.heap.size wr wx)) (fun _ v8 _ => t.f8.length - (intOf v8).toNat)
      case atStart => exact ⟨0, Nat.zero_le _, rfl, rfl, ⟨Below.refl _ _⟩⟩
      case round =>
        obtain ⟨k, hk, rfl, rfl, HY⟩ := hrel
        clear x0
        have HBX := Veil.mk (below_of HB.out HY.out)
        have HBXW := Veil.mk (below_of HB1.out HBX.out)
        have p8 := (HX1.out.below HBX.out HX1.out.lt).cell 8 _ rfl
        by_cases hkl : k < t.f8.length
        · have e1 : decide ((k : Int) < (t.f8.length : Int)) = true := decide_eq_true (by omega)
          have e2 : (k : Int) < (t.f8.length : Int) := by omega
          obtain ⟨ad, rfl, z0, z1, z2, z3, z4, z5⟩ := acc_at (Kd.C_below HT.out HBXW.out) k hkl
          have HLW := Veil.mk (lastW_next t.f8 o x hkl)
          obtain ⟨b, hb⟩ : ∃ b, t.f8[k] = b := ⟨_, rfl⟩
          rw [hb] at z0 z1 z2 z3 z4 z5 HLW
          clear hb z0 z4 z5
          cases m0 : (b.f1 == 3) with
          | false =>
            have HQ : Veil (lastW (t.f8.take (k + 1)) o x = lastW (t.f8.take k) o x) := ⟨by rw [HLW.out]; unfold one1; rw [if_neg (fun h => by rw [h.1] at m0; simp at m0)]⟩
            go_wp2
            exact ⟨⟨k + 1, by omega, by go_num, by rw [HQ.out], HY⟩, by simp [intOf]; omega⟩
          | true =>
            cases m1 : (b.f2 == (o : Int)) with
            | false =>
              have HQ : Veil (lastW (t.f8.take (k + 1)) o x = lastW (t.f8.take k) o x) := ⟨by rw [HLW.out]; unfold one1; rw [if_neg (fun h => by rw [h.2] at m1; simp at m1)]⟩
              go_wp2
              exact ⟨⟨k + 1, by omega, by go_num, by rw [HQ.out], HY⟩, by simp [intOf]; omega⟩
            | true =>
              have HQ : Veil (lastW (t.f8.take (k + 1)) o x = b.f3) := ⟨by rw [HLW.out]; unfold one1; rw [if_pos ⟨by simpa using m0, by simpa using m1⟩]⟩
              go_wp2
              exact ⟨⟨k + 1, by omega, by go_num, by rw [HQ.out], HY⟩, by simp [intOf]; omega⟩
        · have e1 : decide ((k : Int) < (t.f8.length : Int)) = false := decide_eq_false (by omega)
          have hkk : k = t.f8.length := by omega
          have HLL : Veil (lastW (t.f8.take k) o x = lastW t.f8 o x) := ⟨by rw [hkk, List.take_length]⟩
          have HLN : Veil (((applyM vs t.f8).take o).length ≤ 1000000) := ⟨by rw [List.length_take]; omega⟩
          have HR := Veil.mk (Kd.R_below HO.out HY.out)
          obtain ⟨y, hy⟩ : ∃ y, lastW (t.f8.take k) o x = y := ⟨_, rfl⟩
          rw [← HLL.out, hy] at HN
          obtain ⟨out, hout⟩ : ∃ out, (applyM vs t.f8).take o = out := ⟨_, rfl⟩
          rw [hout] at HN HLN HR
          rw [hy]
          clear hy hout HLL hkk
          go_wp2_with (first | ((with_reducible refine gate_builtin (b := .append) (xs := #[.tmp 49, .tmp 51]) rfl ?_); at_builtin; go_must (refine Kd.R_append kI (w0 := w1) w1.heap.size rfl (.tmp 49) (.tmp 51) 47 2 (.int .i64 0) 8 rfl Try.underlying47 infoI rfl (Nat.succ_pos 0) (Nat.succ_pos 7) u5 out y _ (fun _ => True) (fun _ => False) ?hs ?hx ?hp ?hq (fun _ _ => trivial) ?ho ?hb ?hz ?hl ?_); go_must (case hs => rfl); go_must (case hx => rfl); go_must (case ho => exact HR.out); go_must (case hb => exact HBX.out); go_must (case hz => exact HBX.out.size); go_must (case hl => have := HLN.out; omega); go_must (case hq => exact fun _ h => h.elim); go_must (case hp => rfl); intro v1 w6 hR hB6 hg hat; have HRN := Veil.mk hR; have HB6 := Veil.mk hB6; clear hR hB6 hg hat))
          exact ⟨⟨o + 1, by omega, by go_num, ⟨by rw [HN.out]; exact HRN.out⟩, HB6⟩, by simp [intOf]; omega⟩
    · have d1 : decide ((o : Int) < (vs.length : Int)) = false := decide_eq_false (by omega)
      have hoo : o = vs.length := by omega
      have HE : Veil ((applyM vs t.f8).take o = applyM vs t.f8) := ⟨by rw [hoo, ← applyM_length t.f8 vs, List.take_length]⟩
      go_wp2
      go_ret
      exact ⟨_, rfl, by rw [← HE.out]; exact Kd.R_lower HO.out HB1.out.size, HBW.out⟩
end Go.Proofs.Ytjmnbbflahacoaa.Model
/- A try, told as the document's. No condition. -/
namespace Go.Proofs.Ytjmnbbflahacoaa.Model
open Go.RowKit Go.Proofs.Ytjmnbbflahacoaa.Mem Go.Proofs.Ytjmnbbflahacoaa.Hist Go.Proofs.Ytjmnbbflahacoaa.PHistTells Go.Proofs.YtjmnbbflahacoaaW.PrintWords
set_option linter.unusedVariables false
set_option linter.unusedSimpArgs false

theorem withAcc_same (t : Tr) : withAcc t t.f8 = t := rfl
/-- What stands while the accesses are told. -/
structure PlainAt (w wr : World) (t : Tr) (A8 : Option Addr) (c8 : Nat) (k : Nat) (row : Value) : Prop where
  box : Blk wr w.heap.size 29 (trC t (.slice A8 t.f8.length c8))
  res : Blk wr (w.heap.size + 1) 43 [.int .i64 0, .int .i64 0, .int .i64 0, .int .i64 0, .int .i64 0, .int .i64 0, .int .i64 0, .bool false, .slice none 0 0]
  sc : Scan wr (w.heap.size + 1 + 1) (w.heap.size + 1 + 1) (withAcc t (t.f8.take k)) row (.slice none 0 0) []
  below : Below w.heap.size w wr
theorem PlainAt.step {w wr w' : World} {t : Tr} {A8 : Option Addr} {c8 k : Nat} {row : Value} (h : PlainAt w wr t A8 c8 k row) (hb : Below wr.heap.size wr w') : PlainAt w w' t A8 c8 k row :=
  ⟨h.box.below hb h.box.lt, h.res.below hb h.res.lt, h.sc.below hb, below_of h.below hb⟩
theorem plain_start (w : World) (t : Tr) (A8 : Option Addr) (c8 : Nat) :
    PlainAt w (((w.alloc (.cells #[.int .i64 t.f0, .int .i64 t.f1, .int .i64 t.f2, .int .i64 t.f3, .int .i64 t.f4, .int .i64 t.f5, .int .i64 t.f6, .bool t.f7, .slice A8 t.f8.length c8] 29)).alloc (.cells #[.int .i64 0, .int .i64 0, .int .i64 0, .int .i64 0, .int .i64 0, .int .i64 0, .int .i64 0, .bool false, .slice none 0 0] 43)).alloc (.cells #[.int .i64 t.f0, .int .i64 t.f1, .int .i64 t.f2, .int .i64 t.f3, .int .i64 t.f4, .int .i64 t.f5, .int .i64 t.f6, .bool t.f7, .slice none 0 0] 43)) t A8 c8 0 (.slice none 0 0) := by
  have b1 := Blk.new w #[.int .i64 t.f0, .int .i64 t.f1, .int .i64 t.f2, .int .i64 t.f3, .int .i64 t.f4, .int .i64 t.f5, .int .i64 t.f6, .bool t.f7, .slice A8 t.f8.length c8] 29
  have b2 := Blk.new (w.alloc (.cells #[.int .i64 t.f0, .int .i64 t.f1, .int .i64 t.f2, .int .i64 t.f3, .int .i64 t.f4, .int .i64 t.f5, .int .i64 t.f6, .bool t.f7, .slice A8 t.f8.length c8] 29)) #[.int .i64 0, .int .i64 0, .int .i64 0, .int .i64 0, .int .i64 0, .int .i64 0, .int .i64 0, .bool false, .slice none 0 0] 43
  have b3 := Blk.new ((w.alloc (.cells #[.int .i64 t.f0, .int .i64 t.f1, .int .i64 t.f2, .int .i64 t.f3, .int .i64 t.f4, .int .i64 t.f5, .int .i64 t.f6, .bool t.f7, .slice A8 t.f8.length c8] 29)).alloc (.cells #[.int .i64 0, .int .i64 0, .int .i64 0, .int .i64 0, .int .i64 0, .int .i64 0, .int .i64 0, .bool false, .slice none 0 0] 43)) #[.int .i64 t.f0, .int .i64 t.f1, .int .i64 t.f2, .int .i64 t.f3, .int .i64 t.f4, .int .i64 t.f5, .int .i64 t.f6, .bool t.f7, .slice none 0 0] 43
  rw [World.size_alloc] at b2
  rw [World.size_alloc, World.size_alloc] at b3
  exact ⟨(b1.alloc _).alloc _, b2.alloc _, ⟨⟨b3, Nat.le_refl _, Kd.R_nil _ _ _ _ _⟩, Kd.R_nil _ _ _ _ _, Nat.le_refl _⟩, (((Below.refl _ _).alloc (Nat.le_refl _) _).alloc (by simp) _).alloc (by simp; omega) _⟩
theorem plain_append {w wr w6 : World} {t : Tr} {A8 : Option Addr} {c8 k : Nat} {row v1 : Value} (h : PlainAt w wr t A8 c8 k row) (hk : k < t.f8.length)
    (hR : kAcc.R 94 w6 (w.heap.size + 1 + 1) (fun _ => True) v1 (t.f8.take k ++ [t.f8[k]])) (hg : wr.grownBy w6 row.ownBlock) (hat : v1.ownBlock = row.ownBlock ∨ ∃ b, v1.ownBlock = some b ∧ wr.heap.size ≤ b) :
    w6.cell? ⟨w.heap.size + 1 + 1, 8, none⟩ = some row ∧ w6.frozen? ⟨w.heap.size + 1 + 1, 8, none⟩ = false ∧ PlainAt w (w6.setCell ⟨w.heap.size + 1 + 1, 8, none⟩ v1) t A8 c8 (k + 1) v1 := by
  obtain ⟨x, y, hs⟩ := scan_append (a := t.f8[k]) h.sc hR hg hat
  have hrow : ∀ j, row.ownBlock = some j → w.heap.size + 1 + 1 ≤ j := fun j hj => row_from h.sc.tr.acc hj
  have hbl : ∀ j, j < w.heap.size + 1 + 1 → w6.heap[j]? = wr.heap[j]? := fun j hj => hg.block j (Nat.lt_of_lt_of_le hj (Nat.le_of_lt h.sc.tr.blk.lt)) (fun he => by have := hrow j he.symm; omega)
  refine ⟨x, y, ⟨?_, ?_, ?_, ?_⟩⟩
  · exact Blk.far (b := w.heap.size) ((hbl _ (by omega)).trans h.box) (p := ⟨w.heap.size + 1 + 1, 8, none⟩) (by show w.heap.size ≠ w.heap.size + 1 + 1; omega) v1
  · exact Blk.far (b := w.heap.size + 1) ((hbl _ (by omega)).trans h.res) (p := ⟨w.heap.size + 1 + 1, 8, none⟩) (by show w.heap.size + 1 ≠ w.heap.size + 1 + 1; omega) v1
  · rw [List.take_succ_eq_append_getElem hk]
    exact hs
  · refine Below.setCell (p := ⟨w.heap.size + 1 + 1, 8, none⟩) ⟨hg.os.trans h.below.os, hg.tape.trans h.below.tape, hg.output.trans h.below.output, Nat.le_trans h.below.size hg.size, fun j hj => (hbl j (by omega)).trans (h.below.block j hj)⟩ (by show w.heap.size ≤ w.heap.size + 1 + 1; omega) _
theorem ac_new {w wr : World} {t : Tr} {A8 : Option Addr} {c8 k : Nat} {row : Value} (h : PlainAt w wr t A8 c8 k row) (a : Acc) :
    PlainAt w (wr.alloc (.cells #[.int .i64 a.f0, .int .i64 a.f1, .int .i64 a.f2, .int .i64 a.f3, .bool a.f4, .bool a.f5] 33)) t A8 c8 k row := h.step ((Below.refl _ _).alloc (Nat.le_refl _) _)
def ninth (W : World) (b : Nat) (t : Tr) (row : Value) : World := ((((((((W.setCell ⟨b, 0, none⟩ (.int .i64 t.f0)).setCell ⟨b, 1, none⟩ (.int .i64 t.f1)).setCell ⟨b, 2, none⟩ (.int .i64 t.f2)).setCell ⟨b, 3, none⟩ (.int .i64 t.f3)).setCell ⟨b, 4, none⟩ (.int .i64 t.f4)).setCell ⟨b, 5, none⟩ (.int .i64 t.f5)).setCell ⟨b, 6, none⟩ (.int .i64 t.f6)).setCell ⟨b, 7, none⟩ (.bool t.f7)).setCell ⟨b, 8, none⟩ row
theorem ninth_far (W : World) (b : Nat) (t : Tr) (row : Value) {k : Nat} (hk : k ≠ b) : (ninth W b t row).heap[k]? = W.heap[k]? := by
  unfold ninth
  repeat rw [Below.heap_setCell _ _ _ _ hk]
theorem plain_done {w wr : World} (h : Blk wr (w.heap.size + 1) 43 [.int .i64 0, .int .i64 0, .int .i64 0, .int .i64 0, .int .i64 0, .int .i64 0, .int .i64 0, .bool false, .slice none 0 0]) (t : Tr) (row : Value) :
    Blk (ninth wr (w.heap.size + 1) t row) (w.heap.size + 1) 43 (trC t row) :=
  ((((((((h.set 0 _).set 1 _).set 2 _).set 3 _).set 4 _).set 5 _).set 6 _).set 7 _).set 8 _
theorem plain_row {w wr : World} {v : Value} {xs : List Acc} (h : kAcc.R 94 wr (w.heap.size + 1 + 1) (fun _ => True) v xs) (t : Tr) (row : Value) :
    kAcc.R 94 (ninth wr (w.heap.size + 1) t row) (w.heap.size + 1 + 1) (fun _ => True) v xs :=
  Kd.R_mono (Kd.R_move (Kd.R_bound h) (fun k hk => ninth_far _ _ _ _ (by have := hk.2.1; omega))) (fun _ _ => trivial)
theorem plain_below {w wr : World} (h : Below w.heap.size w wr) (t : Tr) (row : Value) : Below w.heap.size w (ninth wr (w.heap.size + 1) t row) := by
  unfold ninth
  exact ((((((((h.setCell (by simp) _).setCell (by simp) _).setCell (by simp) _).setCell (by simp) _).setCell (by simp) _).setCell (by simp) _).setCell (by simp) _).setCell (by simp) _).setCell (by simp) _
set_option maxHeartbeats 8000000 in
set_option maxRecDepth 100000 in
theorem plain_any (w : World) (t : Tr) (A8 : Option Addr) (c8 : Nat) (hT : kAcc.C w A8 t.f8.length t.f8) (ht : t.f8.length ≤ 1000000) :
    Calls Try.prog 36 #[.agg #[.int .i64 t.f0, .int .i64 t.f1, .int .i64 t.f2, .int .i64 t.f3, .int .i64 t.f4, .int .i64 t.f5, .int .i64 t.f6, .bool t.f7, .slice A8 t.f8.length c8]] w
      fun e w' => ∃ A' c', e = .returned (.agg #[.int .i64 t.f0, .int .i64 t.f1, .int .i64 t.f2, .int .i64 t.f3, .int .i64 t.f4, .int .i64 t.f5, .int .i64 t.f6, .bool t.f7, .slice A' t.f8.length c']) ∧ kAcc.C w' A' t.f8.length t.f8 ∧ Below w.heap.size w w' := by
  have HT := Veil.mk hT
  have HTL := Veil.mk ht
  clear hT ht
  go_enter Try.func36, Try.ntmps36
  go_wp2_with fail
  have HP0 := Veil.mk (plain_start w t A8 c8)
  go_loopw [4] (fun v4 wr => ∃ (k : Nat) (row : Value), k ≤ t.f8.length ∧ v4 = .int .i64 k ∧ Veil (PlainAt w wr t A8 c8 k row)) (fun v4 _ => t.f8.length - (intOf v4).toNat)
  case atStart => exact ⟨0, _, Nat.zero_le _, rfl, HP0⟩
  case round =>
    obtain ⟨k, row, hk, rfl, HP⟩ := hrel
    have htl := HTL.out
    have p8 := HP.out.box.cell 8 _ rfl
    by_cases hlt : k < t.f8.length
    · have d1 : decide ((k : Int) < (t.f8.length : Int)) = true := decide_eq_true (by omega)
      have d2 : (k : Int) < (t.f8.length : Int) := by omega
      obtain ⟨ad, rfl, h0, h1, h2, h3, h4, h5⟩ := acc_at (Kd.C_below HT.out HP.out.below) k hlt
      have HAP := Veil.mk (fun v1 w6 (w' : World) (h : PlainAt w w' t (some ad) c8 k row) => plain_append (w6 := w6) (v1 := v1) h hlt)
      have HLA : Veil ((t.f8.take k).length ≤ 1000000) := ⟨by rw [List.length_take]; omega⟩
      obtain ⟨a, ha⟩ : ∃ a, t.f8[k] = a := ⟨_, rfl⟩
      rw [ha] at h0 h1 h2 h3 h4 h5 HAP
      clear ha
      have HPA := Veil.mk (ac_new HP.out a)
      have q8 := HPA.out.sc.tr.blk.cell 8 _ rfl
      obtain ⟨pre, hpre⟩ : ∃ pre, t.f8.take k = pre := ⟨_, rfl⟩
      rw [hpre] at HAP HLA
      have hRo := HPA.out.sc.tr.acc
      have hRo' : kAcc.R 94 (wr.alloc (.cells #[.int .i64 a.f0, .int .i64 a.f1, .int .i64 a.f2, .int .i64 a.f3, .bool a.f4, .bool a.f5] 33)) (w.heap.size + 1 + 1) (fun _ => True) row pre := by rw [← hpre]; exact hRo
      have HR := Veil.mk hRo'
      have hz := HPA.out.sc.tr.blk.lt
      have HZ : Veil (w.heap.size + 1 + 1 ≤ (wr.alloc (.cells #[.int .i64 a.f0, .int .i64 a.f1, .int .i64 a.f2, .int .i64 a.f3, .bool a.f4, .bool a.f5] 33)).heap.size) := ⟨Nat.le_of_lt hz⟩
      clear hpre hRo hRo' hz
      obtain ⟨Ar, cr, rfl⟩ := Kd.R_slice HR.out
      go_wp2_with (first | ((with_reducible refine gate_dst (N := 50) rfl ?_); refine Kd.event_run rfl (bs_acc _ 49 rfl _ _ _ _ _ _ _ rfl _) ?_) | ((with_reducible refine gate_builtin (b := .append) (xs := #[.tmp 36, .tmp 50]) rfl ?_); at_builtin; (refine Kd.R_append kAcc (w0 := wr.alloc (.cells #[.int .i64 a.f0, .int .i64 a.f1, .int .i64 a.f2, .int .i64 a.f3, .bool a.f4, .bool a.f5] 33)) (w.heap.size + 1 + 1) rfl (.tmp 36) (.tmp 50) 41 94 (.agg #[.int .i64 0, .int .i64 0, .int .i64 0, .int .i64 0, .bool false, .bool false]) 40 rfl Try.underlying41 Hist.info94 rfl (by decide) (by omega) (.slice Ar pre.length cr) pre a [.int .i64 a.f0, .int .i64 a.f1, .int .i64 a.f2, .int .i64 a.f3, .bool a.f4, .bool a.f5] (fun _ => True) (fun _ => False) rfl rfl (k33_mkM _ _ _ a) (fun _ hk => hk.elim) (fun _ _ => trivial) HR.out (Below.refl _ _) HZ.out (by have := HLA.out; omega) ?_; intro v1 w6 hR hB hg hat; obtain ⟨A1, c1, rfl⟩ := Kd.R_slice hR; have HSA := Veil.mk (HAP.out _ w6 _ HPA.out hR hg hat); clear hR hB hg hat; have x8 := HSA.out.1; have y8 := HSA.out.2.1)))
      exact ⟨⟨k + 1, _, by omega, by go_num, ⟨by have h := HSA.out.2.2; rw [List.length_append] at h; exact h⟩⟩, by simp [intOf]; omega⟩
    · have d1 : decide ((k : Int) < (t.f8.length : Int)) = false := decide_eq_false (by omega)
      have hkk : k = t.f8.length := by omega
      have hsc := HP.out.sc
      rw [hkk, List.take_length, withAcc_same] at hsc
      have HRO := Veil.mk hsc.tr.acc
      obtain ⟨q0, q1, q2, q3, q4, q5, q6, q7, q8⟩ := hsc.tr.cells
      have f0 := HP.out.res.free 0
      have f1 := HP.out.res.free 1
      have f2 := HP.out.res.free 2
      have f3 := HP.out.res.free 3
      have f4 := HP.out.res.free 4
      have f5 := HP.out.res.free 5
      have f6 := HP.out.res.free 6
      have f7 := HP.out.res.free 7
      have f8 := HP.out.res.free 8
      have r0 := HP.out.res.cell 0 _ rfl
      have r1 := HP.out.res.cell 1 _ rfl
      have r2 := HP.out.res.cell 2 _ rfl
      have r3 := HP.out.res.cell 3 _ rfl
      have r4 := HP.out.res.cell 4 _ rfl
      have r5 := HP.out.res.cell 5 _ rfl
      have r6 := HP.out.res.cell 6 _ rfl
      have r7 := HP.out.res.cell 7 _ rfl
      have r8 := HP.out.res.cell 8 _ rfl
      clear hsc hkk
      obtain ⟨Ar, cr, rfl⟩ := Kd.R_slice HRO.out
      have HB9 := Veil.mk HP.out.below
      have HRS := Veil.mk HP.out.res
      go_wp2
      have HZ9 := Veil.mk (plain_done HRS.out t (.slice Ar t.f8.length cr))
      have HR9 := Veil.mk (plain_row HRO.out t (.slice Ar t.f8.length cr))
      have HL9 := Veil.mk (plain_below HB9.out t (.slice Ar t.f8.length cr))
      unfold ninth at HZ9 HR9 HL9
      generalize ((((((((wr.setCell ⟨w.heap.size + 1, 0, none⟩ (.int .i64 t.f0)).setCell ⟨w.heap.size + 1, 1, none⟩ (.int .i64 t.f1)).setCell ⟨w.heap.size + 1, 2, none⟩ (.int .i64 t.f2)).setCell ⟨w.heap.size + 1, 3, none⟩ (.int .i64 t.f3)).setCell ⟨w.heap.size + 1, 4, none⟩ (.int .i64 t.f4)).setCell ⟨w.heap.size + 1, 5, none⟩ (.int .i64 t.f5)).setCell ⟨w.heap.size + 1, 6, none⟩ (.int .i64 t.f6)).setCell ⟨w.heap.size + 1, 7, none⟩ (.bool t.f7)).setCell ⟨w.heap.size + 1, 8, none⟩ (.slice Ar t.f8.length cr) = wz at *
      obtain ⟨z0, z1, z2, z3, z4, z5, z6, z7, z8⟩ := tr_cells HZ9.out
      refine bodyPost_ret (v := .agg #[.int .i64 t.f0, .int .i64 t.f1, .int .i64 t.f2, .int .i64 t.f3, .int .i64 t.f4, .int .i64 t.f5, .int .i64 t.f6, .bool t.f7, .slice Ar t.f8.length cr]) ?_ rfl ?_
      · simp [results, Try.results36, go_sem, z0, z1, z2, z3, z4, z5, z6, z7, z8]
      · exact ⟨Ar, cr, rfl, (Kd.R_reads' HR9.out).2.2, HL9.out⟩
end Go.Proofs.Ytjmnbbflahacoaa.Model
