/- hist, second part: whether a try wrote an object (access's question, over slices.ContainsFunc). No condition. -/
import Derived.Test.YtjmnbbflahacoaaHistA
import Derived.Test.YtjmnbbflahacoaaPHistTellsx0
namespace Go.Proofs.Ytjmnbbflahacoaa.Hist
open Go.RowKit Go.Proofs.Ytjmnbbflahacoaa.Mem Go.Proofs.Ytjmnbbflahacoaa.PHistTells Go.Proofs.YtjmnbbflahacoaaW.PrintWords
set_option linter.unusedVariables false
set_option linter.unusedSimpArgs false

abbrev Ev := S31
abbrev Acc := S33
abbrev Tr := S29
abbrev kEv := k31
abbrev kAcc := k33
abbrev kTr := k29

/-- Is an access an EvWrite of the object? -/
def wrote (obj : Int) (a : Acc) : Bool := a.f1 == 3 && a.f2 == obj

theorem below_of {w w1 w2 : World} (h : Below w.heap.size w w1) (k : Below w1.heap.size w1 w2) : Below w.heap.size w w2 := h.trans (k.mono h.size)

set_option maxHeartbeats 400000 in
theorem access1_any (w : World) (a0 a1 a2 a3 : Int) (a4 a5 : Bool) (b : Nat) (obj : Int) (hb : w.cell? ⟨b, 4, none⟩ = some (.int .i64 obj)) :
    Calls Try.prog 112 #[.agg #[.int .i64 a0, .int .i64 a1, .int .i64 a2, .int .i64 a3, .bool a4, .bool a5], .pointer (some ⟨b, 0, none⟩)] w
      fun e w' => e = .returned (.bool (a1 == 3 && a2 == obj)) ∧ Below w.heap.size w w' := by
  have hb1 := alloc_cell hb
  by_cases h1 : a1 = 3
  · have e1 : (a1 == 3) = true := beq_iff_eq.2 h1
    clear h1
    go_enter Try.func112, Try.ntmps112
    go_wp2
    go_ret
    exact ⟨by simp [e1], (Below.refl _ _).alloc (Nat.le_refl _) _⟩
  · have e1 : (a1 == 3) = false := beq_eq_false_iff_ne.2 h1
    clear h1
    go_enter Try.func112, Try.ntmps112
    go_wp2
    go_ret
    exact ⟨by simp [e1], (Below.refl _ _).alloc (Nat.le_refl _) _⟩

theorem access1_of (w : World) (x : Acc) (b : Nat) (obj : Int) (hb : w.cell? ⟨b, 4, none⟩ = some (.int .i64 obj)) :
    Calls Try.prog 112 #[.agg #[.int .i64 x.f0, .int .i64 x.f1, .int .i64 x.f2, .int .i64 x.f3, .bool x.f4, .bool x.f5], .pointer (some ⟨b, 0, none⟩)] w
      fun e w' => e = .returned (.bool (wrote obj x)) ∧ Below w.heap.size w w' := access1_any w _ _ _ _ _ _ b obj hb

/-- The first place from i on at which p holds; -1: none. -/
def firstAt {α : Type} (p : α → Bool) : List α → Int → Int
  | [], _ => -1
  | x :: xs, i => if p x then i else firstAt p xs (i + 1)

theorem firstAt_lt {α : Type} (p : α → Bool) (xs : List α) : ∀ i : Int, 0 ≤ i → decide (0 ≤ firstAt p xs i) = xs.any p := by
  induction xs with
  | nil => intro i _; simp [firstAt]
  | cons x xs ih =>
    intro i hi
    unfold firstAt
    by_cases h : p x = true
    · simp [h, hi]
    · rw [if_neg h, ih (i + 1) (by omega)]; simp [h]

set_option maxHeartbeats 800000 in
theorem index_any (w : World) (A : Option Addr) (c : Nat) (xs : List Acc) (b : Nat) (obj : Int) (hC : Kd.C kAcc w A xs.length xs) (hc : xs.length ≤ c) (hb : w.cell? ⟨b, 4, none⟩ = some (.int .i64 obj)) :
    Calls Try.prog 120 #[.slice A xs.length c, .func (.func 112) #[] #[.pointer (some ⟨b, 0, none⟩)]] w
      fun e w' => e = .returned (.int .i64 (firstAt (wrote obj) xs 0)) ∧ Below w.heap.size w w' := by
  have HC := Veil.mk hC
  have HB := Veil.mk hb
  have HL := Veil.mk hC.2.1
  clear hC hb hc
  go_enter Try.func120, Try.ntmps120
  go_wp2
  go_loopw [5, 8] (fun v5 v8 wr => ∃ k : Nat, k ≤ xs.length ∧ v8 = .int .i64 k ∧ Veil (firstAt (wrote obj) xs 0 = firstAt (wrote obj) (xs.drop k) k) ∧ Veil (Below w.heap.size w wr)) (fun _ v8 _ => xs.length - (intOf v8).toNat)
  case atStart => exact ⟨0, Nat.zero_le _, rfl, ⟨by simp⟩, ⟨Below.refl _ _⟩⟩
  case round =>
    obtain ⟨k, hk, rfl, HF, HW⟩ := hrel
    have hm := HL.out
    by_cases hlt : k < xs.length
    · have hC' := Kd.C_below HC.out HW.out
      obtain ⟨ad, rfl, h0, h1, h2, h3, h4, h5⟩ := at_T33 hC' (k : Int) (by omega) (by omega)
      simp only [Int.toNat_natCast] at h0 h1 h2 h3 h4 h5
      have hlti : decide ((k : Int) < (xs.length : Int)) = true := decide_eq_true (by omega)
      have hx : rd_T33 xs (k : Int) = xs[k] := by unfold rd_T33; simp [List.getD, hlt]
      obtain ⟨x, hxx⟩ : ∃ x, rd_T33 xs (k : Int) = x := ⟨_, rfl⟩
      rw [hxx] at h0 h1 h2 h3 h4 h5
      have HX : Veil (xs.drop k = x :: xs.drop (k + 1)) := ⟨by rw [List.drop_eq_getElem_cons hlt, ← hx, hxx]⟩
      clear hxx hx
      have HB2 := (HW.out.cell (p := ⟨b, 4, none⟩) (World.block_lt_of_cell? w _ HB.out)).trans HB.out
      have HB3 := Veil.mk HB2
      clear HB2
      by_cases hp : wrote obj x = true
      · have HR : Veil (firstAt (wrote obj) xs 0 = (k : Int)) := ⟨by rw [HF.out, HX.out, firstAt, if_pos hp]⟩
        go_wp2_with (go_at_call 112; refine (access1_of _ x b obj HB3.out).mono ?_; rintro e w' ⟨rfl, hbw⟩; have HW2 := Veil.mk (below_of HW.out hbw); clear hbw)
        go_ret
        exact ⟨by rw [HR.out]; rfl, HW2.out⟩
      · have hp' : wrote obj x = false := by simpa using hp
        clear hp
        have HR : Veil (firstAt (wrote obj) xs 0 = firstAt (wrote obj) (xs.drop (k + 1)) ((k + 1 : Nat) : Int)) := ⟨by rw [HF.out, HX.out, firstAt, if_neg (by simp [hp'])]; rfl⟩
        go_wp2_with (go_at_call 112; refine (access1_of _ x b obj HB3.out).mono ?_; rintro e w' ⟨rfl, hbw⟩; have HW2 := Veil.mk (below_of HW.out hbw); clear hbw)
        go_roundw
        case rel => exact ⟨k + 1, by omega, by go_num, HR, HW2⟩
        case measure => simp [intOf]; omega
    · have hkl : k = xs.length := by omega
      have HR : Veil (firstAt (wrote obj) xs 0 = -1) := ⟨by rw [HF.out, hkl, List.drop_length]; rfl⟩
      have hlti : decide ((k : Int) < (xs.length : Int)) = false := decide_eq_false (by omega)
      clear hkl
      go_wp2
      go_ret
      exact ⟨by rw [HR.out]; rfl, HW.out⟩

set_option maxHeartbeats 800000 in
theorem contains_any (w : World) (A : Option Addr) (c : Nat) (xs : List Acc) (b : Nat) (obj : Int) (hC : Kd.C kAcc w A xs.length xs) (hc : xs.length ≤ c) (hb : w.cell? ⟨b, 4, none⟩ = some (.int .i64 obj)) :
    Calls Try.prog 111 #[.slice A xs.length c, .func (.func 112) #[] #[.pointer (some ⟨b, 0, none⟩)]] w
      fun e w' => e = .returned (.bool (xs.any (wrote obj))) ∧ Below w.heap.size w w' := by
  have HC := Veil.mk hC
  have HB := Veil.mk hb
  have HL := Veil.mk hc
  have HA := Veil.mk (firstAt_lt (wrote obj) xs 0 (by omega))
  clear hC hb hc
  go_enter Try.func111, Try.ntmps111
  go_wp2_with (go_at_call 120; refine (index_any _ A c xs b obj HC.out HL.out HB.out).mono ?_; rintro e w' ⟨rfl, hbw⟩; have HW := Veil.mk hbw; clear hbw)
  go_ret
  exact ⟨by rw [HA.out]; rfl, HW.out⟩
end Go.Proofs.Ytjmnbbflahacoaa.Hist
