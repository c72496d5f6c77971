/- HistParts's walk: true for every trace. No condition. -/
import Derived.Test.YtjmnbbflahacoaaHistM
import Derived.Test.YtjmnbbflahacoaaParts
import Derived.Test.YtjmnbbflahacoaaWalkPlaces
import Derived.Deep.DeepCutAuto
import Derived.WideKeyPair
namespace Go.Proofs.Ytjmnbbflahacoaa.Hist
open Go.RowKit Go.ChangeMaps Go.Maps Go.Proofs.Ytjmnbbflahacoaa.Mem Go.Proofs.Ytjmnbbflahacoaa.PHistTells Go.Proofs.YtjmnbbflahacoaaW.PrintWords
set_option linter.unusedVariables false
set_option linter.unusedSimpArgs false

set_option maxRecDepth 100000 in
theorem arrKey : WideMaps.ArrKey Try.prog 35 3 2 := ⟨Try.underlying35, by kernel_rfl, by kernel_rfl, by kernel_rfl⟩
set_option maxRecDepth 100000 in
theorem keyOf_pair2 {a b : Int} (wa : (Lit.int .i64 a).wf = true) (wb : (Lit.int .i64 b).wf = true) : keyOf Try.prog 35 (.agg #[.int .i64 a, .int .i64 b]) = some (.string (keyBytes [.int .i64 a, .int .i64 b])) :=
  WideMaps.keyOf_pair arrKey Try.underlying3 ⟨Try.prog.types.size - 1, by kernel_rfl⟩ wa wb
set_option maxRecDepth 100000 in
theorem keyed_pair2 : Keyed Try.prog 35 := Keyed.of_law (deep_law_laid (by kernel_rfl) (m := 1000) (by decide) (Nat.le_of_ble_eq_true (by kernel_rfl)) (by kernel_rfl) (by rw [Try.underlying35]))

/-- What the map of the transactions that were seen says. -/
def seenM (ks : List (Int × Int)) (v : Value) : Option Value := (key2 v).bind fun p => if ks.contains p then some (.bool true) else none
theorem seenM_eq (ks : List (Int × Int)) (a b : Int) : seenM ks (.agg #[.int .i64 a, .int .i64 b]) = if ks.contains (a, b) then some (.bool true) else none := rfl
theorem seenM_look (ks : List (Int × Int)) (a b : Int) : (seenM ks (.agg #[.int .i64 a, .int .i64 b])).getD (.bool false) = .bool (ks.contains (a, b)) := by
  rw [seenM_eq]
  cases h : ks.contains (a, b) <;> simp
theorem seenM_put (ks : List (Int × Int)) (a b : Int) (x : Value) : seenM (ks ++ [(a, b)]) x = put (seenM ks) (.agg #[.int .i64 a, .int .i64 b]) (.bool true) x := by
  by_cases h : x = .agg #[.int .i64 a, .int .i64 b]
  · subst h
    rw [put_same, seenM_eq, if_pos (by simp)]
  · rw [put_other _ _ h]
    unfold seenM
    cases hk : key2 x with
    | none => rfl
    | some p =>
      obtain ⟨p1, p2⟩ := p
      have hx := key2_of hk
      have hne : ¬ (p1 = a ∧ p2 = b) := fun e => h (by rw [hx, e.1, e.2])
      simp only [Option.bind_some]
      congr 1
      simp only [List.contains_iff_mem, List.mem_append, List.mem_singleton, Prod.mk.injEq, eq_iff_iff]
      constructor
      · rintro (h | h)
        · exact h
        · exact absurd h hne
      · exact .inl
theorem seenM_again {ks : List (Int × Int)} {a b : Int} (h : ks.contains (a, b) = true) (x : Value) : seenM (ks ++ [(a, b)]) x = seenM ks x := by
  unfold seenM
  cases key2 x with
  | none => rfl
  | some p =>
    simp only [Option.bind_some]
    congr 1
    simp only [List.contains_iff_mem, List.mem_append, List.mem_singleton, eq_iff_iff] at h ⊢
    constructor
    · rintro (h1 | h1)
      · exact h1
      · rw [h1]; exact h
    · exact .inl
theorem below_setBlock {B : Nat} {a w : World} (h : Below B a w) {b : Nat} (hb : B ≤ b) (o : Obj) : Below B a (setBlock w b o) :=
  ⟨h.os, h.tape, h.output, by have := h.size; simpa [setBlock] using this, fun k hk => by
    have := h.block k hk
    rw [← this]
    simp [setBlock, show b ≠ k by omega]⟩

set_option maxHeartbeats 4000000 in
set_option maxRecDepth 100000 in
theorem histParts_any (w : World) (A : Option Addr) (c : Nat) (l : List Ev) (hC : kEv.C w A l.length l) (hc : l.length ≤ c) (hok : ∀ e ∈ l, EvOk e) :
    Calls Try.prog 4 #[.slice A l.length c] w fun e w' => e = .returned (.bool true) ∧ Below w.heap.size w w' := by
  have HC := Veil.mk hC
  have HO := Veil.mk hok
  clear hC hc hok
  by_cases h120 : 120 < l.length
  · have h5 : decide ((120 : Int) < (l.length : Int)) = true := decide_eq_true (by omega)
    clear h120
    go_enter Try.func4, Try.ntmps4
    go_wp2_with (first | (go_at_call 19; refine (alive_any _).mono ?_; rintro ed w1 ⟨rfl, hb⟩; have HB := Veil.mk hb; clear hb))
    go_ret
    exact ⟨rfl, HB.out⟩
  · have h5 : decide ((120 : Int) < (l.length : Int)) = false := decide_eq_false (by omega)
    have HL : Veil (l.length ≤ 1000000000) := ⟨by omega⟩
    have HL2 : Veil (l.length ≤ 120) := ⟨by omega⟩
    clear h120
    cases hr : rightM l with
    | false =>
      have HR := Veil.mk hr
      clear hr
      go_enter Try.func4, Try.ntmps4
      go_wp2_with (first | (go_at_call 19; refine (alive_any _).mono ?_; rintro ed w1 ⟨rfl, hb⟩; have HB := Veil.mk hb; clear hb) | (go_at_call 20; refine (right_any _ A c l (Kd.C_below HC.out HB.out) HL.out HO.out).mono ?_; rintro ed w2 ⟨rfl, hb⟩; rw [HR.out]; have HB2 := Veil.mk (below_of HB.out hb); clear hb))
      go_ret
      exact ⟨rfl, HB2.out⟩
    | true =>
      have HR := Veil.mk hr
      have htl0 := Nat.le_trans (triesM_length l) HL2.out
      have HTL := Veil.mk htl0
      clear hr htl0
      have hmm := @run_makeMap Try.prog
      go_enter Try.func4, Try.ntmps4
      go_wp2_with (first | (go_at_call 19; refine (alive_any _).mono ?_; rintro ed w1 ⟨rfl, hb⟩; have HB := Veil.mk hb; clear hb) | (go_at_call 20; refine (right_any _ A c l (Kd.C_below HC.out HB.out) HL.out HO.out).mono ?_; rintro ed w2 ⟨rfl, hb⟩; rw [HR.out]; have HB2 := Veil.mk (below_of HB.out hb); clear hb) | (go_at_call 21; refine (tries_any _ A c l (Kd.C_below HC.out HB2.out) HL.out HO.out).mono ?_; rintro ed w3 ⟨v, rfl, hv, hb⟩; have HB3 := Veil.mk (below_of HB2.out hb); have hvr := Kd.R_reads hv; obtain ⟨A1, c1, rfl, _, hT⟩ := hvr; have HT := Veil.mk hT; clear hv hb hT))
      clear hmm
      have HM0 : Veil (MapAt Try.prog 35 (w3.alloc (.map #[] 0)) w3.heap.size (seenM (keysOf (triesM l) 0))) := ⟨(MapAt.made _ _ _).ext (fun x => by unfold seenM keysOf; cases key2 x <;> simp)⟩
      have HS0 : Veil (Below w3.heap.size w3 (w3.alloc (.map #[] 0))) := ⟨(Below.refl _ _).alloc (Nat.le_refl _) _⟩
      go_loopw [4, 6, 7, 8, 9] (fun v4 v6 v7 v8 v9 wr => ∃ i : Nat, i ≤ (triesM l).length ∧ v4 = .int .i64 (partsCnt (triesM l) i : Nat) ∧ v6 = .int .i64 i ∧ Veil (Below w3.heap.size w3 wr) ∧ Veil (MapAt Try.prog 35 wr w3.heap.size (seenM (keysOf (triesM l) i)))) (fun _ v6 _ _ _ _ => (triesM l).length - (intOf v6).toNat)
      case atStart => exact ⟨0, Nat.zero_le _, by rw [partsCnt_zero]; rfl, rfl, HS0, HM0⟩
      case round =>
        obtain ⟨i, hi, rfl, rfl, HW3, HM⟩ := hrel
        have HWw := Veil.mk (HB3.out.trans (HW3.out.mono HB3.out.size))
        have htl := HTL.out
        obtain ⟨q, hq⟩ : ∃ q, partsCnt (triesM l) i = q := ⟨_, rfl⟩
        have hqb : q ≤ 120 := by rw [← hq]; exact Nat.le_trans (partsCnt_le _ _) htl
        have HQ := Veil.mk hq
        rw [hq]
        by_cases hlt : i < (triesM l).length
        · clear hq
          have hT' := Kd.C_below HT.out HW3.out
          obtain ⟨ad, A8, c8, rfl, q0, q1, q2, q3, q4, q5, q6, q7, q8, _, hA8⟩ := at_T29 hT' (i : Int) (by omega) (by omega)
          simp only [Int.toNat_natCast] at q0 q1
          have hlti : decide ((i : Int) < ((triesM l).length : Int)) = true := decide_eq_true (by omega)
          have hlti2 : (i : Int) < ((triesM l).length : Int) := by omega
          have hx : rd_T29 (triesM l) (i : Int) = (triesM l)[i] := by unfold rd_T29; simp [List.getD, hlt]
          obtain ⟨t, htt⟩ : ∃ t, rd_T29 (triesM l) (i : Int) = t := ⟨_, rfl⟩
          rw [htt] at q0 q1
          have HTT : Veil ((triesM l)[i]? = some t) := ⟨by rw [List.getElem?_eq_getElem hlt, ← hx, htt]⟩
          have HWF := Veil.mk (triesM_ok HO.out (List.mem_of_getElem? HTT.out))
          clear hx htt q2 q3 q4 q5 q6 q7 q8 hT' hA8
          have HKN := Veil.mk (keysOf_next HTT.out)
          have q0' := fun o => alloc_cell q0 o
          have q1' := fun o => alloc_cell q1 o
          go_wp2_with fail
          go_cut [7] (fun s7 wx => s7 = .pointer (some ⟨wr.heap.size, 0, none⟩) ∧ wx = (wr.alloc (.cells #[.int .i64 t.f0, .int .i64 t.f1] 35)).drew)
          case first =>
            go_region
            all_goals (go_wp2_with fail; go_meet; exact ⟨rfl, rfl⟩)
          case rest =>
            obtain ⟨rfl, rfl⟩ := hcut
            have hkb : Below wr.heap.size wr (wr.alloc (.cells #[.int .i64 t.f0, .int .i64 t.f1] 35)).drew := ((Below.refl _ _).alloc (Nat.le_refl _) _).drewN 1
            have HKB := Veil.mk hkb
            have HKK : Veil (Blk (wr.alloc (.cells #[.int .i64 t.f0, .int .i64 t.f1] 35)).drew wr.heap.size 35 [.int .i64 t.f0, .int .i64 t.f1]) := ⟨Blk.new wr #[.int .i64 t.f0, .int .i64 t.f1] 35⟩
            have HM1 := Veil.mk (MapAt.below HM.out hkb)
            clear hkb q0 q1 q0' q1'
            generalize (wr.alloc (.cells #[.int .i64 t.f0, .int .i64 t.f1] 35)).drew = w4 at *
            have b0 := HKK.out.cell 0 _ rfl
            have b1 := HKK.out.cell 1 _ rfl
            have hlk := run_lookup (z := .bool false) keyed_pair2 Try.underlying34 (by intro u; go_simp) (keyOf_pair2 HWF.out.1 HWF.out.2) HM1.out
            rw [seenM_look] at hlk
            cases hsn : (keysOf (triesM l) i).contains (t.f0, t.f1) with
            | true =>
              rw [hsn] at hlk
              have HSN := Veil.mk hsn
              clear hsn
              go_wp2
              exact ⟨⟨i + 1, by omega, by rw [partsCnt_seen HTT.out HSN.out, HQ.out], by go_num, ⟨HW3.out.trans (HKB.out.mono HW3.out.size)⟩, ⟨HM1.out.ext (fun x => by rw [HKN.out, seenM_again HSN.out])⟩⟩, by simp [intOf]; omega⟩
            | false =>
              rw [hsn] at hlk
              have HSN := Veil.mk hsn
              clear hsn
              have hup0 := run_update keyed_pair2 Try.underlying34 (keyOf_pair2 HWF.out.1 HWF.out.2) HM1.out (.bool true)
              obtain ⟨o2, hup, hmap⟩ := hup0
              have hne : wr.heap.size ≠ w3.heap.size := (HM1.out.not_blk HKK.out).symm
              have HK5 := Veil.mk (blk_setBlock HKK.out hne o2)
              have HM5 := Veil.mk hmap
              have HW5 := Veil.mk (below_setBlock (HW3.out.trans (HKB.out.mono HW3.out.size)) (Nat.le_refl _) o2)
              have HWw5 := Veil.mk (below_setBlock (HWw.out.trans (HKB.out.mono HWw.out.size)) HB3.out.size o2)
              have p0 := HK5.out.cell 0 _ rfl
              have p1 := HK5.out.cell 1 _ rfl
              clear hmap hne
              go_wp2_with (first | (go_at_call 22; go_must (refine (of_any _ A c l t.f0 t.f1 (Kd.C_below HC.out HWw5.out) HL.out HO.out).mono ?_; rintro ed w6 ⟨v, rfl, hv, hb⟩; have HB6 := Veil.mk hb; have hvr := Kd.R_reads hv; obtain ⟨A6, c6, rfl, _, hT6⟩ := hvr; have HT6 := Veil.mk hT6; clear hv hb hT6)))
              have HM6 := Veil.mk (MapAt.below HM5.out HB6.out)
              have HW6 := Veil.mk (HW5.out.trans (HB6.out.mono HW5.out.size))
              have HK6 := Veil.mk (HK5.out.below HB6.out HK5.out.lt)
              have HOL : Veil ((ofM l t.f0 t.f1).length ≤ 120) := ⟨Nat.le_trans (List.length_filter_le _ _) HTL.out⟩
              clear hlk hup p0 p1 b0 b1
              go_loopw [9] (fun v9 wr => ∃ m : Nat, m ≤ (ofM l t.f0 t.f1).length ∧ v9 = .int .i64 m ∧ Veil (Below w6.heap.size w6 wr)) (fun v9 _ => (ofM l t.f0 t.f1).length - (intOf v9).toNat)
              case atStart => exact ⟨0, Nat.zero_le _, rfl, ⟨Below.refl _ _⟩⟩
              case round =>
                obtain ⟨m, hm, rfl, HW7⟩ := hrel
                have hol := HOL.out
                have b0 := below_cell HW7.out (HK6.out.cell 0 _ rfl)
                have b1 := below_cell HW7.out (HK6.out.cell 1 _ rfl)
                by_cases hmt : m < (ofM l t.f0 t.f1).length
                · have hT7 := Kd.C_below HT6.out HW7.out
                  obtain ⟨ad6, A8', c8', rfl, q0, q1, q2, q3, q4, q5, q6, q7, q8, _, _⟩ := at_T29 hT7 (m : Int) (by omega) (by omega)
                  have hx : rd_T29 (ofM l t.f0 t.f1) (m : Int) = (ofM l t.f0 t.f1)[m] := by unfold rd_T29; simp [List.getD, hmt]
                  obtain ⟨n0, n1, n2⟩ := ofM_num HO.out (List.getElem?_eq_getElem hmt)
                  rw [hx, n0] at q0
                  rw [hx, n1] at q1
                  rw [hx, n2] at q2
                  rw [hx] at q4
                  simp only [Int.toNat_natCast] at q0 q1 q2 q4
                  obtain ⟨u, hu⟩ : ∃ u, (ofM l t.f0 t.f1)[m].f4 = u := ⟨_, rfl⟩
                  rw [hu] at q4
                  have HU := Veil.mk hu
                  have hlm : decide ((m : Int) < ((ofM l t.f0 t.f1).length : Int)) = true := decide_eq_true (by omega)
                  have hlm2 : (m : Int) < ((ofM l t.f0 t.f1).length : Int) := by omega
                  have hw1 : IntKind.i64.wrap ((m : Int) + 1) = (m : Int) + 1 := IntWalk.i64_in _ (by omega)
                  have HT7 := Veil.mk hT7
                  clear hx n0 n1 n2 q3 q5 q6 q7 q8 hu hT7
                  go_wp2_with fail
                  go_cut [102] (fun s102 wx => s102 = .bool false ∧ ∃ n, wx = wr.drewN n)
                  case first =>
                    by_cases hm0 : 0 < m
                    · have d0 : decide ((0 : Int) < (m : Int)) = true := decide_eq_true (by omega)
                      have hw2 : IntKind.i64.wrap ((m : Int) - 1) = ((m - 1 : Nat) : Int) := by rw [IntWalk.i64_in _ (by omega)]; omega
                      have hlm3 : ((m - 1 : Nat) : Int) < ((ofM l t.f0 t.f1).length : Int) := by omega
                      obtain ⟨ad7, A8'', c8'', had, r0, r1, r2, r3, r4, r5, r6, r7, r8, _, _⟩ := at_T29 HT7.out ((m - 1 : Nat) : Int) (by omega) (by omega)
                      injection had with had
                      subst had
                      have hx : rd_T29 (ofM l t.f0 t.f1) ((m - 1 : Nat) : Int) = (ofM l t.f0 t.f1)[m - 1]'(by omega) := by unfold rd_T29; simp [List.getD, show m - 1 < (ofM l t.f0 t.f1).length by omega]
                      rw [hx] at r4
                      simp only [Int.toNat_natCast] at r4
                      have hri := List.pairwise_iff_getElem.1 (ofM_rise HO.out t.f0 t.f1) (m - 1) m (by omega) hmt (by omega)
                      rw [HU.out] at hri
                      obtain ⟨u', hu'⟩ : ∃ u', ((ofM l t.f0 t.f1)[m - 1]'(by omega)).f4 = u' := ⟨_, rfl⟩
                      rw [hu'] at hri r4
                      have d1 : decide (u ≤ u') = false := decide_eq_false (by omega)
                      clear hx hri hu' r0 r1 r2 r3 r5 r6 r7 r8
                      go_quiet (fail)
                      go_wp2_with fail
                      go_meet
                      case rel => exact ⟨by simp, _, rfl⟩
                    · have d0 : decide ((0 : Int) < (m : Int)) = false := decide_eq_false (by omega)
                      go_quiet (fail)
                      go_wp2_with fail
                      go_meet
                      case rel => exact ⟨by simp, _, rfl⟩
                  case rest =>
                    obtain ⟨rfl, nq2, rfl⟩ := hcut
                    go_wp2
                    exact ⟨⟨m + 1, by omega, by go_num, ⟨HW7.out.drewN _⟩⟩, by simp [intOf]; omega⟩
                · have hme : m = (ofM l t.f0 t.f1).length := by omega
                  have hlm : decide ((m : Int) < ((ofM l t.f0 t.f1).length : Int)) = false := decide_eq_false (by omega)
                  have HNX := Veil.mk (partsCnt_new HTT.out HSN.out)
                  have hqq : q + (ofM l t.f0 t.f1).length ≤ 120 := by rw [← HQ.out, ← HNX.out]; exact Nat.le_trans (partsCnt_le _ _) HTL.out
                  clear hme
                  go_wp2
                  exact ⟨⟨i + 1, by omega, by rw [HNX.out, HQ.out]; go_num, by go_num, ⟨HW6.out.trans (HW7.out.mono HW6.out.size)⟩, ⟨(MapAt.below HM6.out HW7.out).ext (fun x => by rw [HKN.out, seenM_put])⟩⟩, by simp [intOf]; omega⟩
        · have hie : i = (triesM l).length := by omega
          have hlti : decide ((i : Int) < ((triesM l).length : Int)) = false := decide_eq_false (by omega)
          have HF : Veil (q = (triesM l).length) := ⟨by rw [← hq, hie, partsCnt_all]⟩
          rw [HF.out]
          clear hie hq
          go_wp2
          go_ret
          exact ⟨by simp, HWw.out⟩
end Go.Proofs.Ytjmnbbflahacoaa.Hist
