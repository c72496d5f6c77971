/- The document's Ok, Right and Alone (layer 11), walked. No condition. -/
import Derived.Test.YtjmnbbflahacoaaAlone
namespace Go.Proofs.Ytjmnbbflahacoaa.Lang
open Go.RowKit Go.Proofs.Ytjmnbbflahacoaa.Mem Go.Proofs.Ytjmnbbflahacoaa.Hist Go.Proofs.Ytjmnbbflahacoaa.Model Go.Proofs.YtjmnbbflahacoaaW.PrintWords
set_option linter.unusedVariables false
set_option linter.unusedSimpArgs false

set_option maxHeartbeats 8000000 in
set_option maxRecDepth 100000 in
theorem refok_any (w : World) (o : Op) (n : Int) : Calls Try.prog 86 #[.agg #[.int .i64 o.f0, .int .i64 o.f1, .int .i64 o.f2], .int .i64 n] w fun e w' => e = .returned (.bool (opOk o n)) ∧ Below w.heap.size w w' := by
  have HB := Veil.mk ((Below.refl w.heap.size w).alloc (Nat.le_refl _) (.cells #[.int .i64 o.f0, .int .i64 o.f1, .int .i64 o.f2] 142))
  obtain ⟨k, x, a⟩ := o
  dsimp only at HB ⊢
  have HN : True := trivial
  by_cases k0 : k < 1
  · have e0 : decide (k < 1) = true := decide_eq_true k0
    have HO : Veil (opOk ⟨k, x, a⟩ n = false) := ⟨by unfold opOk objK; have h1 : (k == 1) = false := beq_eq_false_iff_ne.2 (by omega); have h2 : (k == 2) = false := beq_eq_false_iff_ne.2 (by omega); have h3 : (k == 3) = false := beq_eq_false_iff_ne.2 (by omega); have h4 : (k == 4) = false := beq_eq_false_iff_ne.2 (by omega); have h5 : (k == 5) = false := beq_eq_false_iff_ne.2 (by omega); rw [h1, h2, h3, h4, h5]; rfl⟩
    clear HN
    go_enter Try.func86, Try.ntmps86
    go_wp2
    go_ret
    exact ⟨by rw [HO.out]; rfl, HB.out⟩
  have e0 : decide (k < 1) = false := decide_eq_false k0
  by_cases k5 : k > 5
  · have e1 : decide (k > 5) = true := decide_eq_true k5
    have e1' : decide (5 < k) = true := decide_eq_true k5
    have HO : Veil (opOk ⟨k, x, a⟩ n = false) := ⟨by unfold opOk objK; have h1 : (k == 1) = false := beq_eq_false_iff_ne.2 (by omega); have h2 : (k == 2) = false := beq_eq_false_iff_ne.2 (by omega); have h3 : (k == 3) = false := beq_eq_false_iff_ne.2 (by omega); have h4 : (k == 4) = false := beq_eq_false_iff_ne.2 (by omega); have h5 : (k == 5) = false := beq_eq_false_iff_ne.2 (by omega); rw [h1, h2, h3, h4, h5]; rfl⟩
    clear HN
    go_enter Try.func86, Try.ntmps86
    go_wp2
    go_ret
    exact ⟨by rw [HO.out]; rfl, HB.out⟩
  have e1 : decide (k > 5) = false := decide_eq_false k5
  have e1' : decide (5 < k) = false := decide_eq_false k5
  by_cases k3x : k = 3
  · subst k3x
    clear k0 k5 e0 e1 e1'
    by_cases hx : x = 0
    case neg =>
      have m1 : (x == 0) = false := beq_eq_false_iff_ne.2 hx
      have HO : Veil (opOk ⟨3, x, a⟩ n = false) := ⟨by unfold opOk objK; rw [m1]; rfl⟩
      clear HN
      go_enter Try.func86, Try.ntmps86
      go_wp2
      go_ret
      exact ⟨by rw [HO.out]; rfl, HB.out⟩
    have m1 : (x == 0) = true := beq_iff_eq.2 hx
    clear hx
    by_cases ha : -128 ≤ a
    case neg =>
      have m2 : decide (-128 ≤ a) = false := decide_eq_false ha
      have m3 : decide (a ≥ -128) = false := m2
      have HO : Veil (opOk ⟨3, x, a⟩ n = false) := ⟨by unfold opOk objK; rw [m1, m2]; rfl⟩
      clear HN
      go_enter Try.func86, Try.ntmps86
      go_wp2
      go_ret
      exact ⟨by rw [HO.out]; rfl, HB.out⟩
    have m2 : decide (-128 ≤ a) = true := decide_eq_true ha
    have m3 : decide (a ≥ -128) = true := m2
    have HO : Veil (opOk ⟨3, x, a⟩ n = decide (a ≤ 127)) := ⟨by unfold opOk objK; rw [m1, m2]; rfl⟩
    clear HN
    go_enter Try.func86, Try.ntmps86
    go_wp2
    go_ret
    exact ⟨by rw [HO.out]; rfl, HB.out⟩
  have n3 : (k == 3) = false := beq_eq_false_iff_ne.2 k3x
  by_cases k4x : k = 4
  · subst k4x
    clear k0 k5 e0 e1 e1'
    by_cases hx : x = 0
    case neg =>
      have m1 : (x == 0) = false := beq_eq_false_iff_ne.2 hx
      have HO : Veil (opOk ⟨4, x, a⟩ n = false) := ⟨by unfold opOk objK; rw [m1]; rfl⟩
      clear HN
      go_enter Try.func86, Try.ntmps86
      go_wp2
      go_ret
      exact ⟨by rw [HO.out]; rfl, HB.out⟩
    have m1 : (x == 0) = true := beq_iff_eq.2 hx
    clear hx
    by_cases ha : -128 ≤ a
    case neg =>
      have m2 : decide (-128 ≤ a) = false := decide_eq_false ha
      have m3 : decide (a ≥ -128) = false := m2
      have HO : Veil (opOk ⟨4, x, a⟩ n = false) := ⟨by unfold opOk objK; rw [m1, m2]; rfl⟩
      clear HN
      go_enter Try.func86, Try.ntmps86
      go_wp2
      go_ret
      exact ⟨by rw [HO.out]; rfl, HB.out⟩
    have m2 : decide (-128 ≤ a) = true := decide_eq_true ha
    have m3 : decide (a ≥ -128) = true := m2
    have HO : Veil (opOk ⟨4, x, a⟩ n = decide (a ≤ 127)) := ⟨by unfold opOk objK; rw [m1, m2]; rfl⟩
    clear HN
    go_enter Try.func86, Try.ntmps86
    go_wp2
    go_ret
    exact ⟨by rw [HO.out]; rfl, HB.out⟩
  have n4 : (k == 4) = false := beq_eq_false_iff_ne.2 k4x
  have HK : Veil (opOk ⟨k, x, a⟩ n = ((decide (0 ≤ x) && decide (x < n)) && a == 0)) := ⟨by
    unfold opOk objK
    have : ((k == 1 || k == 2) || k == 5) = true := by simp; omega
    rw [this]; rfl⟩
  clear k0 k5 k3x k4x
  by_cases hx : 0 ≤ x
  case neg =>
    have m1 : decide (0 ≤ x) = false := decide_eq_false hx
    have m2 : decide (x ≥ 0) = false := m1
    have HO : Veil (opOk ⟨k, x, a⟩ n = false) := ⟨by unfold opOk objK; exact HK.out.trans (by rw [m1]; rfl)⟩
    clear HN
    go_enter Try.func86, Try.ntmps86
    go_wp2
    go_ret
    exact ⟨by rw [HO.out]; rfl, HB.out⟩
  have m1 : decide (0 ≤ x) = true := decide_eq_true hx
  have m2 : decide (x ≥ 0) = true := m1
  by_cases hn : x < n
  case neg =>
    have m3 : decide (x < n) = false := decide_eq_false hn
    have HO : Veil (opOk ⟨k, x, a⟩ n = false) := ⟨by unfold opOk objK; exact HK.out.trans (by rw [m1, m3]; rfl)⟩
    clear HN
    go_enter Try.func86, Try.ntmps86
    go_wp2
    go_ret
    exact ⟨by rw [HO.out]; rfl, HB.out⟩
  have m3 : decide (x < n) = true := decide_eq_true hn
  have HO : Veil (opOk ⟨k, x, a⟩ n = (a == 0)) := ⟨by unfold opOk objK; exact HK.out.trans (by rw [m1, m3]; rfl)⟩
  clear HN
  go_enter Try.func86, Try.ntmps86
  go_wp2
  go_ret
  exact ⟨by rw [HO.out]; rfl, HB.out⟩

theorem rightO_is (l : List Op) (n : Int) : rightO l n = (!l.any (fun o => !opOk o n) && (decide (l.length > 0) && decide (l.length < 9))) := by
  unfold rightO
  have h1 : decide (1 ≤ l.length) = decide (l.length > 0) := by simp; omega
  have h2 : decide (l.length ≤ 8) = decide (l.length < 9) := by simp; omega
  rw [h1, h2, Bool.and_comm]
set_option maxHeartbeats 4000000 in
set_option maxRecDepth 100000 in
theorem refright11_any (w : World) (A : Option Addr) (c : Nat) (xs : List Op) (n : Int) (hC : kOp.C w A xs.length xs) (hc : xs.length ≤ 1000000) :
    Calls Try.prog 68 #[.slice A xs.length c, .int .i64 n] w
      fun e w' => e = .returned (.bool (rightO xs n)) ∧ Below w.heap.size w w' := by
  have HC := Veil.mk hC
  have HL := Veil.mk hc
  have HI := Veil.mk (rightO_is xs n)
  clear hC hc
  go_enter Try.func68, Try.ntmps68
  go_wp2_with fail
  go_loopw [5] (fun v5 wr => ∃ k : Nat, k ≤ xs.length ∧ v5 = .int .i64 k ∧ Veil ((xs.take k).any (fun o => !opOk o n) = false) ∧ Veil (Below w.heap.size w wr)) (fun v5 _ => xs.length - (intOf v5).toNat)
  case atStart => exact ⟨0, Nat.zero_le _, rfl, ⟨by simp⟩, ⟨Below.refl _ _⟩⟩
  case round =>
    obtain ⟨k, hk, rfl, HF, HW⟩ := hrel
    have hm := HL.out
    by_cases hlt : k < xs.length
    · obtain ⟨ad, rfl, h0, h1, h2⟩ := op_at (Kd.C_below HC.out HW.out) k hlt
      have hlti : decide ((k : Int) < (xs.length : Int)) = true := decide_eq_true (by omega)
      have d2 : (k : Int) < (xs.length : Int) := by omega
      have HX : Veil ((xs.take (k + 1)).any (fun o => !opOk o n) = !opOk xs[k] n) := ⟨by rw [List.take_succ_eq_append_getElem hlt, List.any_append, HF.out]; simp⟩
      have HM := Veil.mk (List.getElem_mem hlt)
      obtain ⟨x, hx⟩ : ∃ x, xs[k] = x := ⟨_, rfl⟩
      rw [hx] at h0 h1 h2 HX HM
      clear hx
      have HOK := Veil.mk (refok_any wr x n)
      cases hp : opOk x n with
      | false =>
        have HR : Veil (rightO xs n = false) := ⟨by rw [HI.out, List.any_eq_true.2 ⟨x, HM.out, by rw [hp]; rfl⟩]; rfl⟩
        rw [hp] at HOK
        clear hp
        go_wp2_with (go_at_call 86; refine HOK.out.mono ?_; rintro e w' ⟨rfl, hbw⟩; have HW2 := Veil.mk (below_of HW.out hbw); clear hbw)
        go_ret
        exact ⟨by rw [HR.out]; rfl, HW2.out⟩
      | true =>
        have HG : Veil ((xs.take (k + 1)).any (fun o => !opOk o n) = false) := ⟨by rw [HX.out, hp]; rfl⟩
        rw [hp] at HOK
        clear hp
        go_wp2_with (go_at_call 86; refine HOK.out.mono ?_; rintro e w' ⟨rfl, hbw⟩; have HW2 := Veil.mk (below_of HW.out hbw); clear hbw)
        exact ⟨⟨k + 1, by omega, by go_num, HG, HW2⟩, by simp [intOf]; omega⟩
    · have hkl : k = xs.length := by omega
      have HR : Veil (rightO xs n = (decide (xs.length > 0) && decide (xs.length < 9))) := ⟨by rw [HI.out]; have := HF.out; rw [hkl, List.take_length] at this; rw [this]; rfl⟩
      have hlti : decide ((k : Int) < (xs.length : Int)) = false := decide_eq_false (by omega)
      clear hkl
      by_cases h0 : 0 < xs.length
      · have e0 : decide (xs.length > 0) = true := decide_eq_true h0
        have e1 : decide (0 < xs.length) = true := decide_eq_true h0
        have e2 : decide ((0 : Int) < (xs.length : Int)) = true := decide_eq_true (by omega)
        have HZ : Veil (decide ((xs.length : Int) < 9) = decide (xs.length < 9)) := ⟨by simp; omega⟩
        have HQ : Veil (rightO xs n = decide ((xs.length : Int) < 9)) := ⟨by rw [HR.out, e0, HZ.out]; rfl⟩
        go_wp2
        go_ret
        exact ⟨by rw [HQ.out]; rfl, HW.out⟩
      · have e1 : decide (0 < xs.length) = false := decide_eq_false h0
        have e2 : decide ((0 : Int) < (xs.length : Int)) = false := decide_eq_false (by omega)
        have HQ : Veil (rightO xs n = false) := ⟨by rw [HR.out, show decide (xs.length > 0) = false from e1]; rfl⟩
        go_wp2
        go_ret
        exact ⟨by rw [HQ.out]; rfl, HW.out⟩
end Go.Proofs.Ytjmnbbflahacoaa.Lang
