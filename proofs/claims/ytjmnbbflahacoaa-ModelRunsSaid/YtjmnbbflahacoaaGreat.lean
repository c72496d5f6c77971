/- Great, walked: a case of values and transactions alone. No condition. -/
import Derived.Test.YtjmnbbflahacoaaRuns
namespace Go.Proofs.Ytjmnbbflahacoaa.Lang
open Go.RowKit Go.Proofs.Ytjmnbbflahacoaa.Mem Go.Proofs.Ytjmnbbflahacoaa.Hist Go.Proofs.Ytjmnbbflahacoaa.Model Go.Proofs.YtjmnbbflahacoaaW.PrintWords
set_option linter.unusedVariables false
set_option linter.unusedSimpArgs false

/-- What is not great. -/
def Small (all : List (List (List Op))) : Prop := all.length ≤ 10 ∧ ∀ a ∈ all, a.length ≤ 20 ∧ ∀ b ∈ a, b.length ≤ 20
set_option maxHeartbeats 8000000 in
set_option maxRecDepth 100000 in
theorem great_any (w : World) (Av : Option Addr) (cv : Nat) (first : List Int) (B : Option Addr) (cb : Nat) (all : List (List (List Op))) (hfl : first.length ≤ 20) (hB : kA.C w B all.length all) :
    Calls Try.prog 40 #[.agg #[.int .i64 0, .int .i64 0, .int .i64 0, .int .i64 0, .int .i64 0, .int .i64 0, .slice Av first.length cv, .slice none 0 0, .slice B all.length cb]] w
      fun e w' => ((e = .returned (.int .i64 1) ∧ ¬ Small all) ∨ (e = .returned (.int .i64 0) ∧ Small all)) ∧ Below w.heap.size w w' := by
  have g1 : decide ((20 : Int) < (first.length : Int)) = false := decide_eq_false (by omega)
  have g1' : decide (20 < first.length) = false := decide_eq_false (by omega)
  have HBB := Veil.mk hB
  have HX0 := Veil.mk (Blk.new w #[.int .i64 0, .int .i64 0, .int .i64 0, .int .i64 0, .int .i64 0, .int .i64 0, .slice Av first.length cv, .slice none 0 0, .slice B all.length cb] 68)
  have HB0 := Veil.mk ((Below.refl w.heap.size w).alloc (Nat.le_refl _) (.cells #[.int .i64 0, .int .i64 0, .int .i64 0, .int .i64 0, .int .i64 0, .int .i64 0, .slice Av first.length cv, .slice none 0 0, .slice B all.length cb] 68))
  clear hfl hB
  by_cases h10 : 10 < all.length
  · have g2 : decide ((10 : Int) < (all.length : Int)) = true := decide_eq_true (by omega)
    have g2' : decide (10 < all.length) = true := decide_eq_true (by omega)
    have HNS : Veil (¬ Small all) := ⟨fun h => by have := h.1; omega⟩
    clear h10
    go_enter Try.func40, Try.ntmps40
    go_wp2_with fail
    go_ret
    exact ⟨.inl ⟨rfl, HNS.out⟩, HB0.out⟩
  have g2 : decide ((10 : Int) < (all.length : Int)) = false := decide_eq_false (by omega)
  have g2' : decide (10 < all.length) = false := decide_eq_false (by omega)
  go_enter Try.func40, Try.ntmps40
  go_wp2_with fail
  generalize w.alloc (.cells #[.int .i64 0, .int .i64 0, .int .i64 0, .int .i64 0, .int .i64 0, .int .i64 0, .slice Av first.length cv, .slice none 0 0, .slice B all.length cb] 68) = w1 at *
  have b8 := HX0.out.cell 8 _ rfl
  have HCB := Veil.mk (Kd.C_below HBB.out HB0.out)
  obtain ⟨bx, hbx⟩ : ∃ bx, w.heap.size = bx := ⟨_, rfl⟩
  rw [hbx] at b8 ⊢
  clear hbx HX0 HBB
  go_loopw [3] (fun v3 wr => ∃ i : Nat, i ≤ all.length ∧ v3 = .int .i64 i ∧ wr = w1 ∧ Veil (∀ a ∈ all.take i, a.length ≤ 20 ∧ ∀ b ∈ a, b.length ≤ 20)) (fun v3 _ => all.length - (intOf v3).toNat)
  case atStart => exact ⟨0, Nat.zero_le _, rfl, rfl, ⟨by simp⟩⟩
  case round =>
    obtain ⟨i, hi, rfl, rfl, HS⟩ := hrel
    by_cases hlt : i < all.length
    · have d1 : decide ((i : Int) < (all.length : Int)) = true := decide_eq_true (by omega)
      have d2 : (i : Int) < (all.length : Int) := by omega
      obtain ⟨ad, A1, c1, rfl, x1, _, HC1⟩ := row_at HCB.out i hlt
      have HN : Veil (all.take (i + 1) = all.take i ++ [all[i]]) := ⟨List.take_succ_eq_append_getElem hlt⟩
      have HMA := Veil.mk (List.getElem_mem hlt)
      obtain ⟨a, ha⟩ : ∃ a, all[i] = a := ⟨_, rfl⟩
      rw [ha] at x1 HC1 HN HMA
      have HCC := Veil.mk HC1
      clear ha HC1
      by_cases ha : 20 < a.length
      · as_aux_lemma =>
        have e1 : decide ((20 : Int) < (a.length : Int)) = true := decide_eq_true (by omega)
        have e1' : decide (20 < a.length) = true := decide_eq_true ha
        have HNS : Veil (¬ Small all) := ⟨fun h => by have := (h.2 a HMA.out).1; omega⟩
        go_wp2_with fail
        go_ret
        exact ⟨.inl ⟨rfl, HNS.out⟩, HB0.out⟩
      have e1 : decide ((20 : Int) < (a.length : Int)) = false := decide_eq_false (by omega)
      have e1' : decide (20 < a.length) = false := decide_eq_false ha
      go_wp2_with fail
      go_loopw [4] (fun v4 wx => ∃ k : Nat, k ≤ a.length ∧ v4 = .int .i64 k ∧ wx = wr ∧ Veil (∀ b ∈ a.take k, b.length ≤ 20)) (fun v4 _ => a.length - (intOf v4).toNat)
      case atStart => exact ⟨0, Nat.zero_le _, rfl, rfl, ⟨by simp⟩⟩
      case round =>
        obtain ⟨k, hk, rfl, rfl, HT⟩ := hrel
        by_cases hkl : k < a.length
        · have f1 : decide ((k : Int) < (a.length : Int)) = true := decide_eq_true (by omega)
          have f2 : (k : Int) < (a.length : Int) := by omega
          obtain ⟨ad1, A2, c2, rfl, x2, _, _⟩ := ops_at HCC.out k hkl
          have HNK : Veil (a.take (k + 1) = a.take k ++ [a[k]]) := ⟨List.take_succ_eq_append_getElem hkl⟩
          have HMB := Veil.mk (List.getElem_mem hkl)
          obtain ⟨b, hb⟩ : ∃ b, a[k] = b := ⟨_, rfl⟩
          rw [hb] at x2 HNK HMB
          clear hb
          by_cases hb : 20 < b.length
          · as_aux_lemma =>
            have e2 : decide ((20 : Int) < (b.length : Int)) = true := decide_eq_true (by omega)
            have e2' : decide (20 < b.length) = true := decide_eq_true hb
            have HNS : Veil (¬ Small all) := ⟨fun h => by have := (h.2 a HMA.out).2 b HMB.out; omega⟩
            go_wp2_with fail
            go_ret
            exact ⟨.inl ⟨rfl, HNS.out⟩, HB0.out⟩
          as_aux_lemma =>
            have e2 : decide ((20 : Int) < (b.length : Int)) = false := decide_eq_false (by omega)
            have e2' : decide (20 < b.length) = false := decide_eq_false hb
            have HT2 : Veil (∀ b ∈ a.take (k + 1), b.length ≤ 20) := ⟨fun y hy => by
              rw [HNK.out, List.mem_append, List.mem_singleton] at hy
              rcases hy with hy | rfl
              · exact HT.out y hy
              · omega⟩
            go_wp2_with fail
            exact ⟨⟨k + 1, by omega, by go_num, trivial, HT2⟩, by simp [intOf]; omega⟩
        · as_aux_lemma =>
          have f1 : decide ((k : Int) < (a.length : Int)) = false := decide_eq_false (by omega)
          have HS2 : Veil (∀ a ∈ all.take (i + 1), a.length ≤ 20 ∧ ∀ b ∈ a, b.length ≤ 20) := ⟨fun y hy => by
            rw [HN.out, List.mem_append, List.mem_singleton] at hy
            rcases hy with hy | rfl
            · exact HS.out y hy
            · have h := HT.out
              rw [List.take_of_length_le (by omega)] at h
              exact ⟨by omega, h⟩⟩
          go_wp2_with fail
          exact ⟨⟨i + 1, by omega, by go_num, trivial, HS2⟩, by simp [intOf]; omega⟩
    · as_aux_lemma =>
      have d1 : decide ((i : Int) < (all.length : Int)) = false := decide_eq_false (by omega)
      have HQ : Veil (Small all) := ⟨⟨by omega, by have h := HS.out; rw [List.take_of_length_le (by omega)] at h; exact h⟩⟩
      go_wp2_with fail
      go_ret
      exact ⟨.inr ⟨rfl, HQ.out⟩, HB0.out⟩
end Go.Proofs.Ytjmnbbflahacoaa.Lang
