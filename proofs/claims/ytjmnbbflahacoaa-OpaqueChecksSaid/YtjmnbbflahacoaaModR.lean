/- The document's Fits and Apply, walked. No condition. -/
import Derived.Test.YtjmnbbflahacoaaRefX
import Derived.Test.YtjmnbbflahacoaaModF
namespace Go.Proofs.Ytjmnbbflahacoaa.Model
open Go.RowKit Go.Proofs.Ytjmnbbflahacoaa.Mem Go.Proofs.Ytjmnbbflahacoaa.Hist Go.Proofs.Ytjmnbbflahacoaa.PHistTells Go.Proofs.YtjmnbbflahacoaaW.PrintWords
set_option linter.unusedVariables false
set_option linter.unusedSimpArgs false

set_option maxHeartbeats 8000000 in
set_option maxRecDepth 100000 in
theorem reffits_any (w : World) (A : Option Addr) (c : Nat) (vs : List Int) (t : Tr) (A8 : Option Addr) (c8 : Nat) (hC : kI.C w A vs.length vs) (hl : vs.length ≤ 1000000) (hT : kAcc.C w A8 t.f8.length t.f8) (ht : t.f8.length ≤ 1000000) :
    Calls Try.prog 39 #[.slice A vs.length c, .agg #[.int .i64 t.f0, .int .i64 t.f1, .int .i64 t.f2, .int .i64 t.f3, .int .i64 t.f4, .int .i64 t.f5, .int .i64 t.f6, .bool t.f7, .slice A8 t.f8.length c8]] w
      fun e w' => e = .returned (.bool (fitsM vs t.f8)) ∧ Below w.heap.size w w' := by
  have HC := Veil.mk hC
  have HL := Veil.mk hl
  have HT := Veil.mk hT
  have HTL := Veil.mk ht
  have HX1 := Veil.mk (Blk.new w #[.int .i64 t.f0, .int .i64 t.f1, .int .i64 t.f2, .int .i64 t.f3, .int .i64 t.f4, .int .i64 t.f5, .int .i64 t.f6, .bool t.f7, .slice A8 t.f8.length c8] 43)
  have HB1 := Veil.mk ((Below.refl w.heap.size w).alloc (Nat.le_refl _) (.cells #[.int .i64 t.f0, .int .i64 t.f1, .int .i64 t.f2, .int .i64 t.f3, .int .i64 t.f4, .int .i64 t.f5, .int .i64 t.f6, .bool t.f7, .slice A8 t.f8.length c8] 43))
  clear hC hl hT ht
  go_enter Try.func39, Try.ntmps39
  go_wp2
  generalize w.alloc (.cells #[.int .i64 t.f0, .int .i64 t.f1, .int .i64 t.f2, .int .i64 t.f3, .int .i64 t.f4, .int .i64 t.f5, .int .i64 t.f6, .bool t.f7, .slice A8 t.f8.length c8] 43) = w1 at *
  go_loopw [5] (fun v5 wr => ∃ i : Nat, i ≤ t.f8.length ∧ v5 = .int .i64 i ∧ Veil (fitsUpTo vs t.f8 i = true) ∧ Veil (Below w1.heap.size w1 wr)) (fun v5 _ => t.f8.length - (intOf v5).toNat)
  case atStart => exact ⟨0, Nat.zero_le _, rfl, ⟨rfl⟩, ⟨Below.refl _ _⟩⟩
  case round =>
    obtain ⟨i, hi, rfl, HF, HB⟩ := hrel
    have htl := HTL.out
    have hvl := HL.out
    have p8 := (HX1.out.below HB.out HX1.out.lt).cell 8 _ rfl
    have HBW := Veil.mk (below_of HB1.out HB.out)
    by_cases hlt : i < t.f8.length
    · have d1 : decide ((i : Int) < (t.f8.length : Int)) = true := decide_eq_true (by omega)
      have d2 : (i : Int) < (t.f8.length : Int) := by omega
      obtain ⟨ad, rfl, h0, h1, h2, h3, h4, h5⟩ := acc_at (Kd.C_below HT.out HBW.out) i hlt
      have HN := Veil.mk (fitsUpTo_next vs t.f8 hlt)
      have HNO := Veil.mk (fits_no vs t.f8 hlt)
      obtain ⟨a, ha⟩ : ∃ a, t.f8[i] = a := ⟨_, rfl⟩
      rw [ha] at h0 h1 h2 h3 h4 h5 HN HNO
      clear ha
      obtain ⟨a0, a1, a2, a3, a4, a5⟩ := a
      dsimp only at h0 h1 h2 h3 h4 h5
      have HBA := Veil.mk (HB.out.alloc HB.out.size (.cells #[.int .i64 a0, .int .i64 a1, .int .i64 a2, .int .i64 a3, .bool a4, .bool a5] 94))
      have HXA := Veil.mk (Blk.new wr #[.int .i64 a0, .int .i64 a1, .int .i64 a2, .int .i64 a3, .bool a4, .bool a5] 94)
      by_cases e2 : a1 = 2
      · have m2 : (a1 != 2) = false := by simp [e2]
        cases a5 with
        | true =>
          have HK : Veil (fitsUpTo vs t.f8 (i + 1) = true) := ⟨by rw [HN.out, HF.out, okAt_rel]; rfl⟩
          clear e2
          go_wp2
          exact ⟨⟨i + 1, by omega, by go_num, HK, HBA⟩, by simp [intOf]; omega⟩
        | false =>
          have HOWN := Veil.mk (fun v => okAt_own vs (t.f8.take i) a0 a1 a2 a3 a4 (v := v) e2)
          have HNOT := Veil.mk (okAt_not vs (t.f8.take i) a0 a1 a2 a3 a4 e2)
          clear e2
          go_wp2_with fail
          clear p8 h0 h1 h2 h3 h4 h5
          go_loopw [7, 8, 9] (fun v7 v8 v9 wx => ∃ k : Nat, k ≤ i ∧ v9 = .int .i64 k ∧ v8 = .bool (ownOf (t.f8.take k) a2).isSome ∧ v7 = .int .i64 ((ownOf (t.f8.take k) a2).getD 0) ∧ Veil (Below w1.heap.size w1 wx) ∧ Veil (Blk wx wr.heap.size 94 [.int .i64 a0, .int .i64 a1, .int .i64 a2, .int .i64 a3, .bool a4, .bool false])) (fun _ _ v9 _ => i - (intOf v9).toNat)
          case atStart => exact ⟨0, Nat.zero_le _, rfl, rfl, rfl, HBA, HXA⟩
          case round =>
            obtain ⟨k, hk, rfl, rfl, rfl, HBX, HXX⟩ := hrel
            have y2 := HXX.out.cell 2 _ rfl
            have y3 := HXX.out.cell 3 _ rfl
            have y4 := HXX.out.cell 4 _ rfl
            by_cases hki : k < i
            · have d3 : decide ((k : Int) < (i : Int)) = true := decide_eq_true (by omega)
              have d4 : decide (k < i) = true := decide_eq_true hki
              have d5 : (k : Int) < (t.f8.length : Int) := by omega
              have p8 := (HX1.out.below HBX.out HX1.out.lt).cell 8 _ rfl
              have HBXW := Veil.mk (below_of HB1.out HBX.out)
              obtain ⟨ae, hae, z0, z1, z2, z3, z4, z5⟩ := acc_at (Kd.C_below HT.out HBXW.out) k (by omega)
              injection hae with hae
              subst hae
              have HNX : Veil (ownOf (t.f8.take (k + 1)) a2 = if t.f8[k].f1 = 3 ∧ t.f8[k].f2 = a2 then some t.f8[k].f3 else ownOf (t.f8.take k) a2) := ⟨by rw [List.take_succ_eq_append_getElem (by omega), ownOf_snoc]⟩
              obtain ⟨b, hb⟩ : ∃ b, t.f8[k] = b := ⟨_, rfl⟩
              rw [hb] at z0 z1 z2 z3 z4 z5 HNX
              clear hb z0 z4 z5
              cases m0 : (b.f1 == 3) with
              | false =>
                have HQ : Veil (ownOf (t.f8.take (k + 1)) a2 = ownOf (t.f8.take k) a2) := ⟨by rw [HNX.out, if_neg (fun h => by rw [h.1] at m0; simp at m0)]⟩
                go_wp2_with fail
                go_quiet (fail)
                go_wp2
                exact ⟨⟨k + 1, by omega, by go_num, by rw [HQ.out], by rw [HQ.out], ⟨HBX.out.drewN _⟩, ⟨HXX.out.drewN _⟩⟩, by simp [intOf]; omega⟩
              | true =>
                cases m1 : (b.f2 == a2) with
                | false =>
                  have HQ : Veil (ownOf (t.f8.take (k + 1)) a2 = ownOf (t.f8.take k) a2) := ⟨by rw [HNX.out, if_neg (fun h => by rw [h.2] at m1; simp at m1)]⟩
                  go_wp2_with fail
                  go_quiet (fail)
                  go_wp2
                  exact ⟨⟨k + 1, by omega, by go_num, by rw [HQ.out], by rw [HQ.out], ⟨HBX.out.drewN _⟩, ⟨HXX.out.drewN _⟩⟩, by simp [intOf]; omega⟩
                | true =>
                  have HQ : Veil (ownOf (t.f8.take (k + 1)) a2 = some b.f3) := ⟨by rw [HNX.out, if_pos ⟨by simpa using m0, by simpa using m1⟩]⟩
                  go_wp2_with fail
                  go_quiet (fail)
                  go_wp2
                  exact ⟨⟨k + 1, by omega, by go_num, by rw [HQ.out]; rfl, by rw [HQ.out]; rfl, ⟨HBX.out.drewN _⟩, ⟨HXX.out.drewN _⟩⟩, by simp [intOf]; omega⟩
            · have d3 : decide ((k : Int) < (i : Int)) = false := decide_eq_false (by omega)
              have d4 : decide (k < i) = false := decide_eq_false hki
              obtain rfl : k = i := by omega
              cases ho : ownOf (t.f8.take k) a2 with
              | some v =>
                have HOK := Veil.mk (HOWN.out v ho)
                simp only [Option.getD_some, Option.isSome_some]
                clear ho
                cases a4 with
                | false =>
                  have HNF : Veil (fitsM vs t.f8 = false) := ⟨HNO.out (by rw [HOK.out]; rfl)⟩
                  go_wp2
                  go_ret
                  exact ⟨by rw [HNF.out]; (try rfl), below_of HB1.out HBX.out⟩
                | true =>
                  by_cases e3 : v = a3
                  · have m3 : (v != a3) = false := by simp [e3]
                    have HK : Veil (fitsUpTo vs t.f8 (k + 1) = true) := ⟨by rw [HN.out, HF.out, HOK.out, e3]; simp⟩
                    clear e3
                    go_wp2
                    exact ⟨⟨k + 1, by omega, by go_num, HK, HBX⟩, by simp [intOf]; omega⟩
                  · have m3 : (v != a3) = true := by simp [e3]
                    have HNF : Veil (fitsM vs t.f8 = false) := ⟨HNO.out (by rw [HOK.out]; simpa using e3)⟩
                    clear e3
                    go_wp2
                    go_ret
                    exact ⟨by rw [HNF.out]; (try rfl), below_of HB1.out HBX.out⟩
              | none =>
                have HOK := Veil.mk (HNOT.out ho)
                simp only [Option.getD_none, Option.isSome_none]
                clear ho
                by_cases e3 : a2 < 0
                · have m3 : decide (a2 < 0) = true := decide_eq_true e3
                  have HNF : Veil (fitsM vs t.f8 = false) := ⟨HNO.out (by rw [HOK.out]; unfold valAt; rw [if_neg (by omega)]; simp)⟩
                  go_wp2
                  go_ret
                  exact ⟨by rw [HNF.out]; (try rfl), below_of HB1.out HBX.out⟩
                · have m3 : decide (a2 < 0) = false := decide_eq_false e3
                  by_cases e6 : (vs.length : Int) ≤ a2
                  · have m6 : decide ((vs.length : Int) ≤ a2) = true := decide_eq_true e6
                    have HNF : Veil (fitsM vs t.f8 = false) := ⟨HNO.out (by rw [HOK.out]; unfold valAt; rw [if_pos (by omega), List.getElem?_eq_none (by omega)]; simp)⟩
                    go_wp2
                    go_ret
                    exact ⟨by rw [HNF.out]; (try rfl), below_of HB1.out HBX.out⟩
                  · have m6 : decide ((vs.length : Int) ≤ a2) = false := decide_eq_false e6
                    obtain ⟨av, x, rfl, x0, hx⟩ := valsAt (Kd.C_below HC.out (below_of HB1.out HBX.out)) a2 (by omega) (by omega)
                    have e7 : 0 ≤ a2 := by omega
                    have e8 : a2 < (vs.length : Int) := by omega
                    rw [hx] at HOK
                    clear hx
                    cases a4 with
                    | true =>
                      have HNF : Veil (fitsM vs t.f8 = false) := ⟨HNO.out (by rw [HOK.out]; rfl)⟩
                      go_wp2
                      go_ret
                      exact ⟨by rw [HNF.out]; (try rfl), below_of HB1.out HBX.out⟩
                    | false =>
                      by_cases e9 : x = a3
                      · have m9 : (x != a3) = false := by simp [e9]
                        have HK : Veil (fitsUpTo vs t.f8 (k + 1) = true) := ⟨by rw [HN.out, HF.out, HOK.out, e9]; simp⟩
                        clear e9
                        go_wp2
                        exact ⟨⟨k + 1, by omega, by go_num, HK, HBX⟩, by simp [intOf]; omega⟩
                      · have m9 : (x != a3) = true := by simp [e9]
                        have HNF : Veil (fitsM vs t.f8 = false) := ⟨HNO.out (by rw [HOK.out]; simpa using e9)⟩
                        clear e9
                        go_wp2
                        go_ret
                        exact ⟨by rw [HNF.out]; (try rfl), below_of HB1.out HBX.out⟩
      · have m2 : (a1 != 2) = true := by simp [e2]
        have HK : Veil (fitsUpTo vs t.f8 (i + 1) = true) := ⟨by rw [HN.out, HF.out, okAt_other _ _ _ _ _ _ _ _ e2]; rfl⟩
        clear e2
        go_wp2
        exact ⟨⟨i + 1, by omega, by go_num, HK, HBA⟩, by simp [intOf]; omega⟩
    · have d1 : decide ((i : Int) < (t.f8.length : Int)) = false := decide_eq_false (by omega)
      have HE : Veil (fitsM vs t.f8 = true) := ⟨by unfold fitsM; rw [← show i = t.f8.length by omega]; exact HF.out⟩
      go_wp2
      go_ret
      exact ⟨by rw [HE.out]; rfl, HBW.out⟩
theorem lastW_next (l : List Acc) (o : Nat) (d : Int) {k : Nat} (h : k < l.length) : lastW (l.take (k + 1)) o d = one1 o (lastW (l.take k) o d) l[k] := by
  unfold lastW
  rw [List.take_succ_eq_append_getElem h, List.foldl_append]
  rfl
theorem applyM_take (vs : List Int) (l : List Acc) {o : Nat} (h : o < vs.length) : (applyM vs l).take (o + 1) = (applyM vs l).take o ++ [lastW l o vs[o]] := by
  have hl : o < (applyM vs l).length := by rw [applyM_length]; exact h
  rw [List.take_succ_eq_append_getElem hl]
  congr 2
  have := applyM_get l vs o
  rw [List.getElem?_eq_getElem hl, List.getElem?_eq_getElem h] at this
  simpa using this
set_option maxHeartbeats 8000000 in
set_option maxRecDepth 100000 in
theorem refapply_any (w : World) (A : Option Addr) (c : Nat) (vs : List Int) (t : Tr) (A8 : Option Addr) (c8 : Nat) (hC : kI.C w A vs.length vs) (hl : vs.length ≤ 1000000) (hT : kAcc.C w A8 t.f8.length t.f8) (ht : t.f8.length ≤ 1000000) :
    Calls Try.prog 37 #[.slice A vs.length c, .agg #[.int .i64 t.f0, .int .i64 t.f1, .int .i64 t.f2, .int .i64 t.f3, .int .i64 t.f4, .int .i64 t.f5, .int .i64 t.f6, .bool t.f7, .slice A8 t.f8.length c8]] w
      fun e w' => ∃ v, e = .returned v ∧ kI.R 2 w' w.heap.size (fun _ => True) v (applyM vs t.f8) ∧ Below w.heap.size w w' := by
  have HC := Veil.mk hC
  have HL := Veil.mk hl
  have HT := Veil.mk hT
  have HTL := Veil.mk ht
  have HX1 := Veil.mk (Blk.new w #[.int .i64 t.f0, .int .i64 t.f1, .int .i64 t.f2, .int .i64 t.f3, .int .i64 t.f4, .int .i64 t.f5, .int .i64 t.f6, .bool t.f7, .slice A8 t.f8.length c8] 43)
  have HB1 := Veil.mk ((Below.refl w.heap.size w).alloc (Nat.le_refl _) (.cells #[.int .i64 t.f0, .int .i64 t.f1, .int .i64 t.f2, .int .i64 t.f3, .int .i64 t.f4, .int .i64 t.f5, .int .i64 t.f6, .bool t.f7, .slice A8 t.f8.length c8] 43))
  clear hC hl hT ht
  go_enter Try.func37, Try.ntmps37
  go_wp2
  generalize w.alloc (.cells #[.int .i64 t.f0, .int .i64 t.f1, .int .i64 t.f2, .int .i64 t.f3, .int .i64 t.f4, .int .i64 t.f5, .int .i64 t.f6, .bool t.f7, .slice A8 t.f8.length c8] 43) = w1 at *
  go_loopw [5, 6] (fun v5 v6 wr => ∃ o : Nat, o ≤ vs.length ∧ v6 = .int .i64 o ∧ Veil (kI.R 2 wr w1.heap.size (fun _ => True) v5 ((applyM vs t.f8).take o)) ∧ Veil (Below w1.heap.size w1 wr)) (fun _ v6 _ => vs.length - (intOf v6).toNat)
  case atStart => exact ⟨0, Nat.zero_le _, rfl, ⟨by rw [List.take_zero]; exact Kd.R_nil _ _ _ _ _⟩, ⟨Below.refl _ _⟩⟩
  case round =>
    obtain ⟨o, ho, rfl, HO, HB⟩ := hrel
    have htl := HTL.out
    have hvl := HL.out
    have HBW := Veil.mk (below_of HB1.out HB.out)
    by_cases hlt : o < vs.length
    · have d1 : decide ((o : Int) < (vs.length : Int)) = true := decide_eq_true (by omega)
      have d2 : (o : Int) < (vs.length : Int) := by omega
      obtain ⟨av, rfl, x0⟩ := int_at (Kd.C_below HC.out HBW.out) o hlt
      have HN := Veil.mk (applyM_take vs t.f8 hlt)
      obtain ⟨x, hx⟩ : ∃ x, vs[o] = x := ⟨_, rfl⟩
      rw [hx] at x0 HN
      clear hx
      go_wp2_with fail
      go_loopw [7, 8] (fun v7 v8 wx => ∃ k : Nat, k ≤ t.f8.length ∧ v8 = .int .i64 k ∧ v7 = .int .i64 (lastW (t.f8.take k) o x) ∧ Veil (Below wr.heap.size wr wx)) (fun _ v8 _ => t.f8.length - (intOf v8).toNat)
      case atStart => exact ⟨0, Nat.zero_le _, rfl, rfl, ⟨Below.refl _ _⟩⟩
      case round =>
        obtain ⟨k, hk, rfl, rfl, HY⟩ := hrel
        clear x0
        have HBX := Veil.mk (below_of HB.out HY.out)
        have HBXW := Veil.mk (below_of HB1.out HBX.out)
        have p8 := (HX1.out.below HBX.out HX1.out.lt).cell 8 _ rfl
        by_cases hkl : k < t.f8.length
        · have e1 : decide ((k : Int) < (t.f8.length : Int)) = true := decide_eq_true (by omega)
          have e2 : (k : Int) < (t.f8.length : Int) := by omega
          obtain ⟨ad, rfl, z0, z1, z2, z3, z4, z5⟩ := acc_at (Kd.C_below HT.out HBXW.out) k hkl
          have HLW := Veil.mk (lastW_next t.f8 o x hkl)
          obtain ⟨b, hb⟩ : ∃ b, t.f8[k] = b := ⟨_, rfl⟩
          rw [hb] at z0 z1 z2 z3 z4 z5 HLW
          clear hb z0 z4 z5
          cases m0 : (b.f1 == 3) with
          | false =>
            have HQ : Veil (lastW (t.f8.take (k + 1)) o x = lastW (t.f8.take k) o x) := ⟨by rw [HLW.out]; unfold one1; rw [if_neg (fun h => by rw [h.1] at m0; simp at m0)]⟩
            go_wp2
            exact ⟨⟨k + 1, by omega, by go_num, by rw [HQ.out], HY⟩, by simp [intOf]; omega⟩
          | true =>
            cases m1 : (b.f2 == (o : Int)) with
            | false =>
              have HQ : Veil (lastW (t.f8.take (k + 1)) o x = lastW (t.f8.take k) o x) := ⟨by rw [HLW.out]; unfold one1; rw [if_neg (fun h => by rw [h.2] at m1; simp at m1)]⟩
              go_wp2
              exact ⟨⟨k + 1, by omega, by go_num, by rw [HQ.out], HY⟩, by simp [intOf]; omega⟩
            | true =>
              have HQ : Veil (lastW (t.f8.take (k + 1)) o x = b.f3) := ⟨by rw [HLW.out]; unfold one1; rw [if_pos ⟨by simpa using m0, by simpa using m1⟩]⟩
              go_wp2
              exact ⟨⟨k + 1, by omega, by go_num, by rw [HQ.out], HY⟩, by simp [intOf]; omega⟩
        · have e1 : decide ((k : Int) < (t.f8.length : Int)) = false := decide_eq_false (by omega)
          have hkk : k = t.f8.length := by omega
          have HLL : Veil (lastW (t.f8.take k) o x = lastW t.f8 o x) := ⟨by rw [hkk, List.take_length]⟩
          have HLN : Veil (((applyM vs t.f8).take o).length ≤ 1000000) := ⟨by rw [List.length_take]; omega⟩
          have HR := Veil.mk (Kd.R_below HO.out HY.out)
          obtain ⟨y, hy⟩ : ∃ y, lastW (t.f8.take k) o x = y := ⟨_, rfl⟩
          rw [← HLL.out, hy] at HN
          obtain ⟨out, hout⟩ : ∃ out, (applyM vs t.f8).take o = out := ⟨_, rfl⟩
          rw [hout] at HN HLN HR
          rw [hy]
          clear hy hout HLL hkk
          go_wp2_with (first | ((with_reducible refine gate_builtin (b := .append) (xs := #[.tmp 49, .tmp 51]) rfl ?_); at_builtin; go_must (refine Kd.R_append kI (w0 := w1) w1.heap.size rfl (.tmp 49) (.tmp 51) 47 2 (.int .i64 0) 8 rfl Try.underlying47 infoI rfl (Nat.succ_pos 0) (Nat.succ_pos 7) u5 out y _ (fun _ => True) (fun _ => False) ?hs ?hx ?hp ?hq (fun _ _ => trivial) ?ho ?hb ?hz ?hl ?_); go_must (case hs => rfl); go_must (case hx => rfl); go_must (case ho => exact HR.out); go_must (case hb => exact HBX.out); go_must (case hz => exact HBX.out.size); go_must (case hl => have := HLN.out; omega); go_must (case hq => exact fun _ h => h.elim); go_must (case hp => rfl); intro v1 w6 hR hB6 hg hat; have HRN := Veil.mk hR; have HB6 := Veil.mk hB6; clear hR hB6 hg hat))
          exact ⟨⟨o + 1, by omega, by go_num, ⟨by rw [HN.out]; exact HRN.out⟩, HB6⟩, by simp [intOf]; omega⟩
    · have d1 : decide ((o : Int) < (vs.length : Int)) = false := decide_eq_false (by omega)
      have hoo : o = vs.length := by omega
      have HE : Veil ((applyM vs t.f8).take o = applyM vs t.f8) := ⟨by rw [hoo, ← applyM_length t.f8 vs, List.take_length]⟩
      go_wp2
      go_ret
      exact ⟨_, rfl, by rw [← HE.out]; exact Kd.R_lower HO.out HB1.out.size, HBW.out⟩
end Go.Proofs.Ytjmnbbflahacoaa.Model
/- A try, told as the document's. No condition. -/
namespace Go.Proofs.Ytjmnbbflahacoaa.Model
open Go.RowKit Go.Proofs.Ytjmnbbflahacoaa.Mem Go.Proofs.Ytjmnbbflahacoaa.Hist Go.Proofs.Ytjmnbbflahacoaa.PHistTells Go.Proofs.YtjmnbbflahacoaaW.PrintWords
set_option linter.unusedVariables false
set_option linter.unusedSimpArgs false

/-- What stands while the accesses are told. -/
structure PlainAt (w wr : World) (t : Tr) (A8 : Option Addr) (c8 : Nat) (k : Nat) (row : Value) : Prop where
  box : Blk wr w.heap.size 29 (trC t (.slice A8 t.f8.length c8))
  res : Blk wr (w.heap.size + 1) 43 [.int .i64 0, .int .i64 0, .int .i64 0, .int .i64 0, .int .i64 0, .int .i64 0, .int .i64 0, .bool false, .slice none 0 0]
  sc : Scan wr (w.heap.size + 1 + 1) (w.heap.size + 1 + 1) (withAcc t (t.f8.take k)) row (.slice none 0 0) []
  below : Below w.heap.size w wr
theorem PlainAt.step {w wr w' : World} {t : Tr} {A8 : Option Addr} {c8 k : Nat} {row : Value} (h : PlainAt w wr t A8 c8 k row) (hb : Below wr.heap.size wr w') : PlainAt w w' t A8 c8 k row :=
  ⟨h.box.below hb h.box.lt, h.res.below hb h.res.lt, h.sc.below hb, below_of h.below hb⟩
def ninth (W : World) (b : Nat) (t : Tr) (row : Value) : World := ((((((((W.setCell ⟨b, 0, none⟩ (.int .i64 t.f0)).setCell ⟨b, 1, none⟩ (.int .i64 t.f1)).setCell ⟨b, 2, none⟩ (.int .i64 t.f2)).setCell ⟨b, 3, none⟩ (.int .i64 t.f3)).setCell ⟨b, 4, none⟩ (.int .i64 t.f4)).setCell ⟨b, 5, none⟩ (.int .i64 t.f5)).setCell ⟨b, 6, none⟩ (.int .i64 t.f6)).setCell ⟨b, 7, none⟩ (.bool t.f7)).setCell ⟨b, 8, none⟩ row
end Go.Proofs.Ytjmnbbflahacoaa.Model
