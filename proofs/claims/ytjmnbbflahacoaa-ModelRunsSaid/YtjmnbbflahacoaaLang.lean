/- lang: Ok, Right and Sum, walked. No condition. -/
import Derived.Test.YtjmnbbflahacoaaProg
import Derived.Test.YtjmnbbflahacoaaBase
import Derived.Test.YtjmnbbflahacoaaHistX
import Derived.Test.YtjmnbbflahacoaaModA
namespace Go.Proofs.Ytjmnbbflahacoaa.Lang
open Go.RowKit Go.Proofs.Ytjmnbbflahacoaa.Mem Go.Proofs.Ytjmnbbflahacoaa.Hist Go.Proofs.Ytjmnbbflahacoaa.Model Go.Proofs.YtjmnbbflahacoaaW.PrintWords
set_option linter.unusedVariables false
set_option linter.unusedSimpArgs false

/-- An operation: kind, object, argument. -/
structure Op where
  f0 : Int
  f1 : Int
  f2 : Int
def zOp : Op := ⟨0, 0, 0⟩
def kOp : Kd Op := Kd.iso (Kd.pair (Kd.int .i64) (Kd.pair (Kd.int .i64) (Kd.int .i64))) (fun x : Op => (x.f0, x.f1, x.f2))
theorem kOp_open {w : World} {x : Op} {cs : List Value} (h : kOp.K w x cs) : cs = [.int .i64 x.f0, .int .i64 x.f1, .int .i64 x.f2] := by
  obtain ⟨_, _, rfl, rfl, ⟨_, _, rfl, rfl, rfl⟩⟩ := h
  exact rfl
theorem op_at {w : World} {A : Option Addr} {l : List Op} (h : kOp.C w A l.length l) (k : Nat) (hk : k < l.length) :
    ∃ ad, A = some ad ∧ w.cell? (ad.add (k * 3)) = some (.int .i64 l[k].f0) ∧ w.cell? ⟨(ad.add (k * 3)).block, (ad.add (k * 3)).off + 1, none⟩ = some (.int .i64 l[k].f1) ∧ w.cell? ⟨(ad.add (k * 3)).block, (ad.add (k * 3)).off + 2, none⟩ = some (.int .i64 l[k].f2) := by
  obtain ⟨ad, c, e, _, hK, hc0⟩ := Kd.C_get h zOp (k : Int) (by omega) (by omega)
  have hx : l.getD (k : Int).toNat zOp = l[k] := by simp [List.getD, hk]
  rw [hx] at hK
  have hc : ∀ j u, c[j]? = some u → w.cell? (ad.add (k * 3 + j)) = some u := fun j u hj => by
    have h2 := hc0 j u hj
    rw [Int.toNat_natCast] at h2
    exact h2
  obtain rfl := kOp_open hK
  exact ⟨ad, e, hc 0 _ rfl, by rw [← add_field _ _ 1 (by omega)]; exact hc 1 _ rfl, by rw [← add_field _ _ 2 (by omega)]; exact hc 2 _ rfl⟩
abbrev kT : Kd (List Op) := Kd.slice 142 kOp
abbrev kA : Kd (List (List Op)) := Kd.slice 103 kT
def objK (k : Int) : Bool := k == 1 || k == 2 || k == 5
def opOk (o : Op) (n : Int) : Bool := if objK o.f0 then (decide (0 ≤ o.f1) && decide (o.f1 < n)) && o.f2 == 0 else if o.f0 == 3 || o.f0 == 4 then (o.f1 == 0 && decide (-128 ≤ o.f2)) && decide (o.f2 ≤ 127) else false
def rightO (l : List Op) (n : Int) : Bool := decide (1 ≤ l.length) && decide (l.length ≤ 8) && !l.any (fun o => !opOk o n)

set_option maxHeartbeats 1000000 in
theorem object_any (w : World) (k : Int) : Calls Try.prog 119 #[.int .i64 k] w fun e w' => e = .returned (.bool (objK k)) ∧ w = w' := by
  by_cases h1 : k = 1
  · subst h1
    go_enter Try.func119, Try.ntmps119
    go_wp2
    go_ret
    exact ⟨rfl, rfl⟩
  have m1 : (k == 1) = false := beq_eq_false_iff_ne.2 h1
  by_cases h2 : k = 2
  · subst h2
    go_enter Try.func119, Try.ntmps119
    go_wp2
    go_ret
    exact ⟨rfl, rfl⟩
  have m2 : (k == 2) = false := beq_eq_false_iff_ne.2 h2
  have HK : Veil (objK k = (k == 5)) := ⟨by unfold objK; rw [m1, m2]; rfl⟩
  clear h1 h2
  go_enter Try.func119, Try.ntmps119
  go_wp2
  go_ret
  exact ⟨by rw [HK.out]; rfl, rfl⟩

set_option maxHeartbeats 4000000 in
set_option maxRecDepth 100000 in
theorem ok_any (w : World) (o : Op) (n : Int) : Calls Try.prog 108 #[.agg #[.int .i64 o.f0, .int .i64 o.f1, .int .i64 o.f2], .int .i64 n] w fun e w' => e = .returned (.bool (opOk o n)) ∧ Below w.heap.size w w' := by
  have HB := Veil.mk ((Below.refl w.heap.size w).alloc (Nat.le_refl _) (.cells #[.int .i64 o.f0, .int .i64 o.f1, .int .i64 o.f2] 142))
  obtain ⟨k, x, a⟩ := o
  dsimp only at HB ⊢
  cases hk : objK k with
  | true =>
    have HO : Veil (opOk ⟨k, x, a⟩ n = ((decide (0 ≤ x) && decide (x < n)) && a == 0)) := ⟨by unfold opOk; simp only [hk, if_true]⟩
    have HC := Veil.mk (fun (W : World) => object_any W k)
    rw [hk] at HC
    clear hk
    by_cases h1 : 0 ≤ x
    · have m1 : decide (0 ≤ x) = true := decide_eq_true h1
      by_cases h2 : x < n
      · have m2 : decide (x < n) = true := decide_eq_true h2
        rw [m1, m2] at HO
        clear h1 h2
        go_enter Try.func108, Try.ntmps108
        go_wp2_with (first | (go_at_call 119; go_must (refine (HC.out _).mono ?_; rintro ed w2 ⟨rfl, rfl⟩)))
        go_ret
        exact ⟨by rw [HO.out]; rfl, HB.out⟩
      · have m2 : decide (x < n) = false := decide_eq_false h2
        rw [m1, m2] at HO
        clear h1 h2
        go_enter Try.func108, Try.ntmps108
        go_wp2_with (first | (go_at_call 119; go_must (refine (HC.out _).mono ?_; rintro ed w2 ⟨rfl, rfl⟩)))
        go_ret
        exact ⟨by rw [HO.out]; rfl, HB.out⟩
    · have m1 : decide (0 ≤ x) = false := decide_eq_false h1
      rw [m1] at HO
      clear h1
      go_enter Try.func108, Try.ntmps108
      go_wp2_with (first | (go_at_call 119; go_must (refine (HC.out _).mono ?_; rintro ed w2 ⟨rfl, rfl⟩)))
      go_ret
      exact ⟨by rw [HO.out]; rfl, HB.out⟩
  | false =>
    have HC := Veil.mk (fun (W : World) => object_any W k)
    rw [hk] at HC
    have hO : opOk ⟨k, x, a⟩ n = if k == 3 || k == 4 then (x == 0 && decide (-128 ≤ a)) && decide (a ≤ 127) else false := by unfold opOk; simp only [hk]; rfl
    have HO0 := Veil.mk hO
    clear hk hO
    by_cases h34 : k = 3 ∨ k = 4
    · have HO : Veil (opOk ⟨k, x, a⟩ n = ((x == 0 && decide (-128 ≤ a)) && decide (a ≤ 127))) := ⟨by rw [HO0.out]; rcases h34 with rfl | rfl <;> rfl⟩
      clear HO0
      by_cases hx : x = 0
      · have m1 : (x == 0) = true := beq_iff_eq.2 hx
        by_cases ha : -128 ≤ a
        · have m2 : decide (-128 ≤ a) = true := decide_eq_true ha
          rw [m1, m2] at HO
          clear hx ha
          by_cases h3 : k = 3
          · have m3 : (k == 3) = true := beq_iff_eq.2 h3
            clear h3 h34
            go_enter Try.func108, Try.ntmps108
            go_wp2_with (first | (go_at_call 119; go_must (refine (HC.out _).mono ?_; rintro ed w2 ⟨rfl, rfl⟩)))
            go_ret
            exact ⟨by rw [HO.out]; rfl, HB.out⟩
          · have m3 : (k == 3) = false := beq_eq_false_iff_ne.2 h3
            have m4 : (k == 4) = true := beq_iff_eq.2 (by omega)
            clear h3 h34
            go_enter Try.func108, Try.ntmps108
            go_wp2_with (first | (go_at_call 119; go_must (refine (HC.out _).mono ?_; rintro ed w2 ⟨rfl, rfl⟩)))
            go_ret
            exact ⟨by rw [HO.out]; rfl, HB.out⟩
        · have m2 : decide (-128 ≤ a) = false := decide_eq_false ha
          rw [m1, m2] at HO
          clear hx ha
          by_cases h3 : k = 3
          · have m3 : (k == 3) = true := beq_iff_eq.2 h3
            clear h3 h34
            go_enter Try.func108, Try.ntmps108
            go_wp2_with (first | (go_at_call 119; go_must (refine (HC.out _).mono ?_; rintro ed w2 ⟨rfl, rfl⟩)))
            go_ret
            exact ⟨by rw [HO.out]; rfl, HB.out⟩
          · have m3 : (k == 3) = false := beq_eq_false_iff_ne.2 h3
            have m4 : (k == 4) = true := beq_iff_eq.2 (by omega)
            clear h3 h34
            go_enter Try.func108, Try.ntmps108
            go_wp2_with (first | (go_at_call 119; go_must (refine (HC.out _).mono ?_; rintro ed w2 ⟨rfl, rfl⟩)))
            go_ret
            exact ⟨by rw [HO.out]; rfl, HB.out⟩
      · have m1 : (x == 0) = false := beq_eq_false_iff_ne.2 hx
        rw [m1] at HO
        clear hx
        by_cases h3 : k = 3
        · have m3 : (k == 3) = true := beq_iff_eq.2 h3
          clear h3 h34
          go_enter Try.func108, Try.ntmps108
          go_wp2_with (first | (go_at_call 119; go_must (refine (HC.out _).mono ?_; rintro ed w2 ⟨rfl, rfl⟩)))
          go_ret
          exact ⟨by rw [HO.out]; rfl, HB.out⟩
        · have m3 : (k == 3) = false := beq_eq_false_iff_ne.2 h3
          have m4 : (k == 4) = true := beq_iff_eq.2 (by omega)
          clear h3 h34
          go_enter Try.func108, Try.ntmps108
          go_wp2_with (first | (go_at_call 119; go_must (refine (HC.out _).mono ?_; rintro ed w2 ⟨rfl, rfl⟩)))
          go_ret
          exact ⟨by rw [HO.out]; rfl, HB.out⟩
    · have m3 : (k == 3) = false := beq_eq_false_iff_ne.2 (fun h => h34 (.inl h))
      have m4 : (k == 4) = false := beq_eq_false_iff_ne.2 (fun h => h34 (.inr h))
      have HO : Veil (opOk ⟨k, x, a⟩ n = false) := ⟨by rw [HO0.out, m3, m4]; rfl⟩
      clear h34 HO0
      go_enter Try.func108, Try.ntmps108
      go_wp2_with (first | (go_at_call 119; go_must (refine (HC.out _).mono ?_; rintro ed w2 ⟨rfl, rfl⟩)))
      go_ret
      exact ⟨by rw [HO.out]; rfl, HB.out⟩

set_option maxHeartbeats 1000000 in
theorem right1_any (w : World) (o : Op) (b : Nat) (n : Int) (hb : w.cell? ⟨b, 0, none⟩ = some (.int .i64 n)) :
    Calls Try.prog 107 #[.agg #[.int .i64 o.f0, .int .i64 o.f1, .int .i64 o.f2], .pointer (some ⟨b, 0, none⟩)] w fun e w' => e = .returned (.bool (!opOk o n)) ∧ Below w.heap.size w w' := by
  have hb1 := alloc_cell hb
  have HB := Veil.mk ((Below.refl w.heap.size w).alloc (Nat.le_refl _) (.cells #[.int .i64 o.f0, .int .i64 o.f1, .int .i64 o.f2] 142))
  go_enter Try.func107, Try.ntmps107
  go_wp2_with (first | (go_at_call 108; go_must (refine (ok_any _ o n).mono ?_; rintro ed w2 ⟨rfl, hk⟩; have HB2 := Veil.mk (below_of HB.out hk); clear hk)))
  go_ret
  exact ⟨rfl, HB2.out⟩

set_option maxHeartbeats 1600000 in
theorem indexO_any (w : World) (A : Option Addr) (c : Nat) (xs : List Op) (b : Nat) (n : Int) (hC : kOp.C w A xs.length xs) (hc : xs.length ≤ 1000000) (hb : w.cell? ⟨b, 0, none⟩ = some (.int .i64 n)) :
    Calls Try.prog 118 #[.slice A xs.length c, .func (.func 107) #[] #[.pointer (some ⟨b, 0, none⟩)]] w
      fun e w' => e = .returned (.int .i64 (firstAt (fun o => !opOk o n) xs 0)) ∧ Below w.heap.size w w' := by
  have HC := Veil.mk hC
  have HB := Veil.mk hb
  have HL := Veil.mk hc
  clear hC hb hc
  go_enter Try.func118, Try.ntmps118
  go_wp2
  go_loopw [5, 8] (fun v5 v8 wr => ∃ k : Nat, k ≤ xs.length ∧ v8 = .int .i64 k ∧ Veil (firstAt (fun o => !opOk o n) xs 0 = firstAt (fun o => !opOk o n) (xs.drop k) k) ∧ Veil (Below w.heap.size w wr)) (fun _ v8 _ => xs.length - (intOf v8).toNat)
  case atStart => exact ⟨0, Nat.zero_le _, rfl, ⟨by simp⟩, ⟨Below.refl _ _⟩⟩
  case round =>
    obtain ⟨k, hk, rfl, HF, HW⟩ := hrel
    have hm := HL.out
    by_cases hlt : k < xs.length
    · have hC' := Kd.C_below HC.out HW.out
      obtain ⟨ad, rfl, h0, h1, h2⟩ := op_at hC' k hlt
      have hlti : decide ((k : Int) < (xs.length : Int)) = true := decide_eq_true (by omega)
      have d2 : (k : Int) < (xs.length : Int) := by omega
      have HX : Veil (xs.drop k = xs[k] :: xs.drop (k + 1)) := ⟨List.drop_eq_getElem_cons hlt⟩
      obtain ⟨x, hx⟩ : ∃ x, xs[k] = x := ⟨_, rfl⟩
      rw [hx] at h0 h1 h2 HX
      clear hx hC'
      have HB3 := Veil.mk ((HW.out.cell (p := ⟨b, 0, none⟩) (World.block_lt_of_cell? w _ HB.out)).trans HB.out)
      cases hp : opOk x n with
      | false =>
        have HR : Veil (firstAt (fun o => !opOk o n) xs 0 = (k : Int)) := ⟨by rw [HF.out, HX.out, firstAt, if_pos (by simp [hp])]⟩
        have HQ : Veil ((!opOk x n) = true) := ⟨by rw [hp]; rfl⟩
        clear hp
        go_wp2_with (go_at_call 107; refine (right1_any _ x b n HB3.out).mono ?_; rintro e w' ⟨rfl, hbw⟩; rw [HQ.out]; have HW2 := Veil.mk (below_of HW.out hbw); clear hbw)
        go_ret
        exact ⟨by rw [HR.out]; rfl, HW2.out⟩
      | true =>
        have HR : Veil (firstAt (fun o => !opOk o n) xs 0 = firstAt (fun o => !opOk o n) (xs.drop (k + 1)) ((k + 1 : Nat) : Int)) := ⟨by rw [HF.out, HX.out, firstAt, if_neg (by simp [hp])]; rfl⟩
        have HQ : Veil ((!opOk x n) = false) := ⟨by rw [hp]; rfl⟩
        clear hp
        go_wp2_with (go_at_call 107; refine (right1_any _ x b n HB3.out).mono ?_; rintro e w' ⟨rfl, hbw⟩; rw [HQ.out]; have HW2 := Veil.mk (below_of HW.out hbw); clear hbw)
        go_roundw
        case rel => exact ⟨k + 1, by omega, by go_num, HR, HW2⟩
        case measure => simp [intOf]; omega
    · have hkl : k = xs.length := by omega
      have HR : Veil (firstAt (fun o => !opOk o n) xs 0 = -1) := ⟨by rw [HF.out, hkl, List.drop_length]; rfl⟩
      have hlti : decide ((k : Int) < (xs.length : Int)) = false := decide_eq_false (by omega)
      clear hkl
      go_wp2
      go_ret
      exact ⟨by rw [HR.out]; rfl, HW.out⟩

set_option maxHeartbeats 1600000 in
theorem containsO_any (w : World) (A : Option Addr) (c : Nat) (xs : List Op) (b : Nat) (n : Int) (hC : kOp.C w A xs.length xs) (hc : xs.length ≤ 1000000) (hb : w.cell? ⟨b, 0, none⟩ = some (.int .i64 n)) :
    Calls Try.prog 106 #[.slice A xs.length c, .func (.func 107) #[] #[.pointer (some ⟨b, 0, none⟩)]] w
      fun e w' => e = .returned (.bool (xs.any (fun o => !opOk o n))) ∧ Below w.heap.size w w' := by
  have HC := Veil.mk hC
  have HB := Veil.mk hb
  have HL := Veil.mk hc
  have HA := Veil.mk (firstAt_lt (fun o => !opOk o n) xs 0 (by omega))
  clear hC hb hc
  go_enter Try.func106, Try.ntmps106
  go_wp2_with (go_at_call 118; refine (indexO_any _ A c xs b n HC.out HL.out HB.out).mono ?_; rintro e w' ⟨rfl, hbw⟩; have HW := Veil.mk hbw; clear hbw)
  go_ret
  exact ⟨by rw [HA.out]; rfl, HW.out⟩

set_option maxHeartbeats 1600000 in
theorem right_any (w : World) (A : Option Addr) (c : Nat) (xs : List Op) (n : Int) (hC : kOp.C w A xs.length xs) (hl : xs.length ≤ 1000000) :
    Calls Try.prog 82 #[.slice A xs.length c, .int .i64 n] w fun e w' => e = .returned (.bool (rightO xs n)) ∧ Below w.heap.size w w' := by
  have HB := Veil.mk ((Below.refl w.heap.size w).alloc (Nat.le_refl _) (.cells #[.int .i64 n] 3))
  have HX := Veil.mk ((Blk.new w #[.int .i64 n] 3).cell 0 _ rfl)
  have HC := Veil.mk (Kd.C_below hC HB.out)
  have HL := Veil.mk hl
  have HR : Veil (rightO xs n = (decide (1 ≤ xs.length) && decide (xs.length ≤ 8) && !xs.any (fun o => !opOk o n))) := ⟨rfl⟩
  clear hC
  by_cases h1 : 1 ≤ xs.length
  · have m1 : decide ((1 : Int) ≤ (xs.length : Int)) = true := decide_eq_true (by omega)
    by_cases h8 : xs.length ≤ 8
    · have m8 : decide ((xs.length : Int) ≤ 8) = true := decide_eq_true (by omega)
      have HR2 : Veil (rightO xs n = !xs.any (fun o => !opOk o n)) := ⟨by rw [HR.out, decide_eq_true h1, decide_eq_true h8]; rfl⟩
      clear HR h1 h8 hl
      go_enter Try.func82, Try.ntmps82
      go_wp2_with (first | (go_at_call 106; go_must (refine (containsO_any _ A c xs w.heap.size n HC.out HL.out HX.out).mono ?_; rintro ed w2 ⟨rfl, hb⟩; have HB2 := Veil.mk (below_of HB.out hb); clear hb)))
      go_ret
      exact ⟨by rw [HR2.out]; rfl, HB2.out⟩
    · have m8 : decide ((xs.length : Int) ≤ 8) = false := decide_eq_false (by omega)
      have HR2 : Veil (rightO xs n = false) := ⟨by rw [HR.out, decide_eq_false h8]; simp⟩
      clear HR h1 h8 hl
      go_enter Try.func82, Try.ntmps82
      go_wp2
      go_ret
      exact ⟨by rw [HR2.out]; rfl, HB.out⟩
  · have m1 : decide ((1 : Int) ≤ (xs.length : Int)) = false := decide_eq_false (by omega)
    have HR2 : Veil (rightO xs n = false) := ⟨by rw [HR.out, decide_eq_false h1]; simp⟩
    clear HR h1 hl
    go_enter Try.func82, Try.ntmps82
    go_wp2
    go_ret
    exact ⟨by rw [HR2.out]; rfl, HB.out⟩
end Go.Proofs.Ytjmnbbflahacoaa.Lang
