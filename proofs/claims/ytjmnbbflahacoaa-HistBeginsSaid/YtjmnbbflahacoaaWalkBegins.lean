/- HistBegins's walk: true for every trace. No condition. -/
import Derived.Test.YtjmnbbflahacoaaHistP
import Derived.Test.YtjmnbbflahacoaaBegins
import Derived.Test.YtjmnbbflahacoaaWalkPlaces
import Derived.Deep.DeepCutAuto
namespace Go.Proofs.Ytjmnbbflahacoaa.Hist
open Go.RowKit Go.ChangeMaps Go.Maps Go.Proofs.Ytjmnbbflahacoaa.Mem Go.Proofs.Ytjmnbbflahacoaa.PHistTells Go.Proofs.YtjmnbbflahacoaaW.PrintWords
set_option linter.unusedVariables false
set_option linter.unusedSimpArgs false

set_option maxHeartbeats 4000000 in
set_option maxRecDepth 100000 in
theorem histBegins_any (w : World) (A : Option Addr) (c : Nat) (l : List Ev) (k : Int) (hC : kEv.C w A l.length l) (hc : l.length ≤ c) (hok : ∀ e ∈ l, EvOk e) (hk0 : 0 ≤ k) (hk1 : k ≤ 255) :
    Calls Try.prog 7 #[.slice A l.length c, .int .u8 k] w fun e w' => e = .returned (.bool true) ∧ Below w.heap.size w w' := by
  have HC := Veil.mk hC
  have HO := Veil.mk hok
  have HCC := Veil.mk hc
  clear hC hok
  by_cases h120 : 120 < l.length
  · have h5 : decide ((120 : Int) < (l.length : Int)) = true := decide_eq_true (by omega)
    clear h120 hc
    go_enter Try.func7, Try.ntmps7
    go_wp2_with (first | (go_at_call 19; refine (alive_any _).mono ?_; rintro ed w1 ⟨rfl, hb⟩; have HB := Veil.mk hb; clear hb))
    go_ret
    exact ⟨rfl, HB.out⟩
  · have h5 : decide ((120 : Int) < (l.length : Int)) = false := decide_eq_false (by omega)
    have HL : Veil (l.length ≤ 1000000000) := ⟨by omega⟩
    have HL2 : Veil (l.length ≤ 120) := ⟨by omega⟩
    have hlb : l.length ≤ 120 := by omega
    clear h120
    cases hr : rightM l with
    | false =>
      have HR := Veil.mk hr
      clear hr hc
      go_enter Try.func7, Try.ntmps7
      go_wp2_with (first | (go_at_call 19; refine (alive_any _).mono ?_; rintro ed w1 ⟨rfl, hb⟩; have HB := Veil.mk hb; clear hb) | (go_at_call 20; refine (right_any _ A c l (Kd.C_below HC.out HB.out) HL.out HO.out).mono ?_; rintro ed w2 ⟨rfl, hb⟩; rw [HR.out]; have HB2 := Veil.mk (below_of HB.out hb); clear hb))
      go_ret
      exact ⟨rfl, HB2.out⟩
    | true =>
      have HR := Veil.mk hr
      obtain ⟨j, hj⟩ : ∃ j : Nat, k.tmod ((l.length : Int) + 1) = (j : Int) := ⟨(k.tmod ((l.length : Int) + 1)).toNat, by rw [Int.toNat_of_nonneg (Int.tmod_nonneg _ hk0)]⟩
      have hjl : j ≤ l.length := by
        have := Int.tmod_lt_of_pos k (show (0 : Int) < (l.length : Int) + 1 by omega)
        omega
      have hcut := cut_to (P := Try.prog) 22 31 .i64 Try.underlying22 (info_parts info31).choose_spec.1 A l.length c (j : Int) (by omega) (by omega) hc
      rw [Int.toNat_natCast] at hcut
      obtain ⟨b, hbl⟩ : ∃ b, l.take j = b := ⟨_, rfl⟩
      have hblen : b.length = j := by rw [← hbl, List.length_take]; omega
      have hBC : ∀ w', Below w.heap.size w w' → kEv.C w' A j b := fun w' hw => by
        have := Kd.C_take (m := j) (Kd.C_below HC.out hw) (by omega)
        rw [hbl, hblen] at this
        exact this
      have hbr := begins_right j hr
      rw [hbl] at hbr
      have hcc := committed_count hr
      have HBC := Veil.mk hBC
      have HBR := Veil.mk hbr
      have HCN := Veil.mk hcc
      have HBO : Veil (∀ e ∈ b, EvOk e) := ⟨fun e he => HO.out e (by rw [← hbl] at he; exact List.mem_of_mem_take he)⟩
      subst hblen
      have hw1 : IntKind.i64.wrap ((l.length : Int) + 1) = (l.length : Int) + 1 := IntWalk.i64_in _ (by omega)
      have hjb : (b.length : Int) ≤ 120 := by omega
      have HBLB : Veil (b.length ≤ 1000000000) := ⟨by omega⟩
      clear hr hc hbl hBC hbr hcc hjl
      go_enter Try.func7, Try.ntmps7
      go_wp2_with (first | (go_at_call 19; refine (alive_any _).mono ?_; rintro ed w1 ⟨rfl, hb⟩; have HB := Veil.mk hb; clear hb) | (go_at_call 20; with_reducible refine (right_any _ A c l (Kd.C_below HC.out HB.out) HL.out HO.out).mono ?_; rintro ed w2 ⟨rfl, hb⟩; rw [HR.out]; have HB2 := Veil.mk (below_of HB.out hb); clear hb) | (go_at_call 21; with_reducible refine (tries_any _ A c b (HBC.out _ HB2.out) HBLB.out HBO.out).mono ?_; rintro ed w3 ⟨v, rfl, hv, hb⟩; have HB3 := Veil.mk (below_of HB2.out hb); have hvr := Kd.R_reads hv; obtain ⟨A1, c1, rfl, _, hT⟩ := hvr; have HT := Veil.mk hT; clear hv hb hT) | (go_at_call 21; with_reducible refine (tries_any _ A c l (Kd.C_below HC.out HB3.out) HL.out HO.out).mono ?_; rintro ed w4 ⟨v, rfl, hv, hb⟩; have HB4 := Veil.mk (below_of HB3.out hb); have HT4 := Veil.mk (Kd.C_below HT.out hb); have hvr := Kd.R_reads hv; obtain ⟨A2, c2, rfl, _, hT⟩ := hvr; have HTl := Veil.mk hT; clear hv hb hT) | (go_at_call 20; with_reducible refine (right_any _ A c b (HBC.out _ HB4.out) HBLB.out HBO.out).mono ?_; rintro ed w5 ⟨rfl, hb⟩; rw [HBR.out.1]; have HB5 := Veil.mk (below_of HB4.out hb); have HT5 := Veil.mk (Kd.C_below HT4.out hb); have HTl5 := Veil.mk (Kd.C_below HTl.out hb); have hgt : decide ((triesM l).length < (triesM b).length) = false := decide_eq_false (by have := HBR.out.2.len; omega); have hgn : ¬ (triesM l).length < (triesM b).length := (by have := HBR.out.2.len; omega); clear hb))
      have hxb : (triesM b).length ≤ 120 := by have := triesM_length b; omega
      have HXB := Veil.mk hxb
      clear hgt hgn hxb
      go_loopw [8] (fun v8 wr => ∃ i : Nat, i ≤ (triesM b).length ∧ v8 = .int .i64 i ∧ Veil (Below w5.heap.size w5 wr)) (fun v8 _ => (triesM b).length - (intOf v8).toNat)
      case atStart => exact ⟨0, Nat.zero_le _, rfl, ⟨Below.refl _ _⟩⟩
      case round =>
        obtain ⟨i, hi, rfl, HW⟩ := hrel
        have hxb := HXB.out
        have HWw := Veil.mk (below_of HB5.out HW.out)
        by_cases hlt : i < (triesM b).length
        · obtain ⟨t', ht', hlat⟩ := HBR.out.2.each i _ (List.getElem?_eq_getElem hlt)
          have hlt' : i < (triesM l).length := (List.getElem?_eq_some_iff.1 ht').1
          obtain ⟨ad, A8, c8, rfl, q0, q1, q2, q3, q4, q5, q6, q7, q8, _, _⟩ := at_T29 (Kd.C_below HT5.out HW.out) (i : Int) (by omega) (by omega)
          obtain ⟨ae, B8, e8, rfl, r0, r1, r2, r3, r4, r5, r6, r7, r8, _, _⟩ := at_T29 (Kd.C_below HTl5.out HW.out) (i : Int) (by omega) (by omega)
          simp only [Int.toNat_natCast] at q4 q5 q8 r4 r5 r8
          have hx : rd_T29 (triesM b) (i : Int) = (triesM b)[i] := by unfold rd_T29; simp [List.getD, hlt]
          have hy : rd_T29 (triesM l) (i : Int) = t' := by unfold rd_T29; rw [List.getD_eq_getElem?_getD, Int.toNat_natCast, ht']; rfl
          obtain ⟨t, htt⟩ : ∃ t, (triesM b)[i] = t := ⟨_, rfl⟩
          rw [hx, htt] at q4 q5 q8
          rw [htt] at hlat
          rw [hy] at r4 r5 r8
          rw [hlat.begins] at r4
          have d1 : decide ((i : Int) < ((triesM b).length : Int)) = true := decide_eq_true (by omega)
          have d2 : (i : Int) < ((triesM b).length : Int) := by omega
          have d3 : (i : Int) < ((triesM l).length : Int) := by omega
          have d4 : decide ((t'.f8.length : Int) < (t.f8.length : Int)) = false := decide_eq_false (by have := hlat.accs; omega)
          have d4' : decide (t'.f8.length < t.f8.length) = false := decide_eq_false (by have := hlat.accs; omega)
          have HLT := Veil.mk hlat
          clear q0 q1 q2 q3 q6 q7 r0 r1 r2 r3 r6 r7 hx hy htt ht' hlat
          go_wp2_with fail
          go_cut [94] (fun s94 wx => s94 = .bool false ∧ ∃ n, wx = wr.drewN n)
          case first =>
            by_cases hend : 0 ≤ t.f5
            · have d5 : decide (0 ≤ t.f5) = true := decide_eq_true hend
              rw [HLT.out.ends hend] at r5
              go_quiet (fail)
              go_wp2_with fail
              go_meet
              case rel => exact ⟨by simp, _, rfl⟩
            · have d5 : decide (0 ≤ t.f5) = false := decide_eq_false hend
              go_quiet (fail)
              go_wp2_with fail
              go_meet
              case rel => exact ⟨by simp, _, rfl⟩
          case rest =>
            obtain ⟨rfl, nq, rfl⟩ := hcut
            go_wp2
            exact ⟨⟨i + 1, by omega, by go_num, ⟨HW.out.drewN _⟩⟩, by simp [intOf]; omega⟩
        · have d1 : decide ((i : Int) < ((triesM b).length : Int)) = false := decide_eq_false (by omega)
          go_wp2_with (first | (go_at_call 25; go_must (refine (commits_any _ A c l (Kd.C_below HC.out HWw.out) HL.out HO.out).mono ?_; rintro ed w6 ⟨v, cs, rfl, hv, hcs, hb⟩; have HB6 := Veil.mk (below_of HWw.out hb); have hvr := Kd.R_reads hv; obtain ⟨A3, c3, rfl, _, _⟩ := hvr; have HCL : Veil (cs.length = beforeM l l.length) := ⟨hcs.perm.length_eq.trans HCN.out⟩; clear hv hb hcs)) | (go_at_call 23; go_must (refine (before_any _ A c l (l.length : Int) (Kd.C_below HC.out HB6.out) HCC.out HL.out).mono ?_; rintro ed w7 ⟨rfl, hb⟩; rw [← HCL.out]; have HB7 := Veil.mk (below_of HB6.out hb); clear hb)))
          go_ret
          exact ⟨by simp, HB7.out⟩
end Go.Proofs.Ytjmnbbflahacoaa.Hist
