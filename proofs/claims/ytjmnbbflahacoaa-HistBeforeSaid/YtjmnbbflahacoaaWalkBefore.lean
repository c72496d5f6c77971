/- HistBefore's walk: true for every trace and place. No condition. -/
import Derived.Test.YtjmnbbflahacoaaHistM
namespace Go.Proofs.Ytjmnbbflahacoaa.Hist
open Go.RowKit Go.ChangeMaps Go.Maps Go.Proofs.Ytjmnbbflahacoaa.Mem Go.Proofs.Ytjmnbbflahacoaa.PHistTells Go.Proofs.YtjmnbbflahacoaaW.PrintWords
set_option linter.unusedVariables false
set_option linter.unusedSimpArgs false

/-- How many commits stand ahead of a place, of the first k. -/
def aheadM (l : List Ev) (place : Int) (k : Nat) : Nat := (l.take (min k place.toNat)).countP (fun e => e.f0 == 5)
theorem aheadM_next {l : List Ev} {place : Int} {k : Nat} (hk : k < l.length) (h : (k : Int) < place) : aheadM l place (k + 1) = aheadM l place k + (if l[k].f0 == 5 then 1 else 0) := by
  unfold aheadM
  rw [show min (k + 1) place.toNat = k + 1 by omega, show min k place.toNat = k by omega, List.take_succ_eq_append_getElem hk, List.countP_append, List.countP_singleton]
theorem aheadM_stay {l : List Ev} {place : Int} {k : Nat} (h : ¬ (k : Int) < place) : aheadM l place (k + 1) = aheadM l place k := by
  unfold aheadM
  rw [show min (k + 1) place.toNat = min k place.toNat by omega]
theorem aheadM_all (l : List Ev) (place : Int) : aheadM l place l.length = beforeM l place := by
  unfold aheadM beforeM
  congr 1
  rcases Nat.lt_or_ge l.length place.toNat with h | h
  · rw [show min l.length place.toNat = l.length by omega, List.take_length, List.take_of_length_le (by omega)]
  · rw [show min l.length place.toNat = place.toNat by omega]
theorem aheadM_le (l : List Ev) (place : Int) (k : Nat) : aheadM l place k ≤ l.length := Nat.le_trans List.countP_le_length (by rw [List.length_take]; omega)

set_option maxHeartbeats 1600000 in
set_option maxRecDepth 100000 in
theorem histBefore_any (w : World) (A : Option Addr) (c : Nat) (l : List Ev) (place : Int) (hC : kEv.C w A l.length l) (hc : l.length ≤ c) :
    Calls Try.prog 5 #[.slice A l.length c, .int .i64 place] w fun e w' => e = .returned (.bool true) ∧ Below w.heap.size w w' := by
  have HC := Veil.mk hC
  have HCC := Veil.mk hc
  clear hC hc
  by_cases h500 : 500 < l.length
  · have h5 : decide ((500 : Int) < (l.length : Int)) = true := decide_eq_true (by omega)
    clear h500
    go_enter Try.func5, Try.ntmps5
    go_wp2_with (first | (go_at_call 19; refine (alive_any _).mono ?_; rintro ed w1 ⟨rfl, hb⟩; have HB := Veil.mk hb; clear hb))
    go_ret
    exact ⟨rfl, HB.out⟩
  · have h5 : decide ((500 : Int) < (l.length : Int)) = false := decide_eq_false (by omega)
    have HL : Veil (l.length ≤ 500) := ⟨by omega⟩
    clear h500
    go_enter Try.func5, Try.ntmps5
    go_wp2_with (first | (go_at_call 19; refine (alive_any _).mono ?_; rintro ed w1 ⟨rfl, hb⟩; have HB := Veil.mk hb; clear hb))
    go_loopw [5, 6] (fun v5 v6 wr => ∃ k : Nat, k ≤ l.length ∧ v5 = .int .i64 (aheadM l place k : Nat) ∧ v6 = .int .i64 k ∧ Veil (Below w.heap.size w wr)) (fun _ v6 _ => l.length - (intOf v6).toNat)
    case atStart => exact ⟨0, Nat.zero_le _, by unfold aheadM; simp, rfl, HB⟩
    case round =>
      obtain ⟨k, hk, rfl, rfl, HW⟩ := hrel
      have hlen := HL.out
      obtain ⟨q, hq⟩ : ∃ q, aheadM l place k = q := ⟨_, rfl⟩
      have hqb : q ≤ 500 := by rw [← hq]; exact Nat.le_trans (aheadM_le _ _ _) hlen
      have HQ := Veil.mk hq
      by_cases hlt : k < l.length
      · have hC' := Kd.C_below HC.out HW.out
        obtain ⟨ad, rfl, h0, h1, h2, h3, h4, h5, h6⟩ := at_T31 hC' (k : Int) (by omega) (by omega)
        simp only [Int.toNat_natCast] at h0
        clear h1 h2 h3 h4 h6
        have hlti : decide ((k : Int) < (l.length : Int)) = true := decide_eq_true (by omega)
        have hlt2 : (k : Int) < (l.length : Int) := by omega
        have hx : rd_T31 l (k : Int) = l[k] := by unfold rd_T31; simp [List.getD, hlt]
        obtain ⟨x, hxx⟩ : ∃ x, rd_T31 l (k : Int) = x := ⟨_, rfl⟩
        rw [hxx] at h0
        have HX : Veil (l[k] = x) := ⟨by rw [← hx, hxx]⟩
        rw [hq]
        clear hxx hx hq
        by_cases hp : (k : Int) < place
        · have hpd : decide ((k : Int) < place) = true := decide_eq_true hp
          have HN := Veil.mk (aheadM_next hlt hp)
          cases h5' : (x.f0 == 5) with
          | true =>
            go_wp2
            go_roundw
            case rel => exact ⟨k + 1, by omega, by rw [HN.out, HQ.out, HX.out, h5']; go_num, by go_num, HW⟩
            case measure => simp [intOf]; omega
          | false =>
            go_wp2
            go_roundw
            case rel => exact ⟨k + 1, by omega, by rw [HN.out, HQ.out, HX.out, h5']; rfl, by go_num, HW⟩
            case measure => simp [intOf]; omega
        · have hpd : decide ((k : Int) < place) = false := decide_eq_false hp
          have HN := Veil.mk (aheadM_stay (l := l) hp)
          go_wp2
          go_roundw
          case rel => exact ⟨k + 1, by omega, by rw [HN.out, HQ.out], by go_num, HW⟩
          case measure => simp [intOf]; omega
      · have hkl : k = l.length := by omega
        have hlti : decide ((k : Int) < (l.length : Int)) = false := decide_eq_false (by omega)
        have HF : Veil (beforeM l place = q) := ⟨by rw [← HQ.out, hkl, aheadM_all]⟩
        rw [hq]
        clear hkl hq
        go_wp2_with (first | (go_at_call 23; refine (before_any _ A c l place (Kd.C_below HC.out HW.out) HCC.out (Nat.le_trans HL.out (by decide))).mono ?_; rintro ed w2 ⟨rfl, hb⟩; rw [HF.out]; have HB2 := Veil.mk (below_of HW.out hb); clear hb))
        go_ret
        exact ⟨by simp, HB2.out⟩
end Go.Proofs.Ytjmnbbflahacoaa.Hist
