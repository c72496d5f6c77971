/- model: released, walked. No condition. -/
import Derived.Test.YtjmnbbflahacoaaModA
namespace Go.Proofs.Ytjmnbbflahacoaa.Lang
open Go.RowKit Go.Proofs.Ytjmnbbflahacoaa.Mem Go.Proofs.Ytjmnbbflahacoaa.Hist Go.Proofs.Ytjmnbbflahacoaa.Model Go.Proofs.Ytjmnbbflahacoaa.PHistTells Go.Proofs.YtjmnbbflahacoaaW.PrintWords
set_option linter.unusedVariables false
set_option linter.unusedSimpArgs false

/-- Does an event release something of a try? -/
def relB (t : Tr) (e : Ev) : Bool := ((e.f0 == 4 && e.f1 == t.f0) && e.f2 == t.f1) && e.f3 == t.f2
set_option maxHeartbeats 4000000 in
theorem rel1_any (w : World) (e : Ev) (b : Nat) (t : Tr) (h0 : w.cell? ⟨b, 0, none⟩ = some (.int .i64 t.f0)) (h1 : w.cell? ⟨b, 1, none⟩ = some (.int .i64 t.f1)) (h2 : w.cell? ⟨b, 2, none⟩ = some (.int .i64 t.f2)) :
    Calls Try.prog 81 #[.agg #[.int .i64 e.f0, .int .i64 e.f1, .int .i64 e.f2, .int .i64 e.f3, .int .i64 e.f4, .int .i64 e.f5, .int .i64 e.f6], .pointer (some ⟨b, 0, none⟩)] w fun ed w' => ed = .returned (.bool (relB t e)) ∧ Below w.heap.size w w' := by
  have h0' := alloc_cell h0
  have h1' := alloc_cell h1
  have h2' := alloc_cell h2
  have HB := Veil.mk ((Below.refl w.heap.size w).alloc (Nat.le_refl _) (.cells #[.int .i64 e.f0, .int .i64 e.f1, .int .i64 e.f2, .int .i64 e.f3, .int .i64 e.f4, .int .i64 e.f5, .int .i64 e.f6] 31))
  have HR : Veil (relB t e = (((e.f0 == 4 && e.f1 == t.f0) && e.f2 == t.f1) && e.f3 == t.f2)) := ⟨rfl⟩
  clear h0 h1 h2
  by_cases a0 : e.f0 = 4
  · have m0 : (e.f0 == 4) = true := beq_iff_eq.2 a0
    by_cases a1 : e.f1 = t.f0
    · have m1 : (e.f1 == t.f0) = true := beq_iff_eq.2 a1
      by_cases a2 : e.f2 = t.f1
      · have m2 : (e.f2 == t.f1) = true := beq_iff_eq.2 a2
        have HQ : Veil (relB t e = (e.f3 == t.f2)) := ⟨by rw [HR.out, m0, m1, m2]; rfl⟩
        clear a0 a1 a2 HR
        go_enter Try.func81, Try.ntmps81
        go_wp2
        go_ret
        exact ⟨by rw [HQ.out]; rfl, HB.out⟩
      · have m2 : (e.f2 == t.f1) = false := beq_eq_false_iff_ne.2 a2
        have HQ : Veil (relB t e = false) := ⟨by rw [HR.out, m0, m1, m2]; rfl⟩
        clear a0 a1 a2 HR
        go_enter Try.func81, Try.ntmps81
        go_wp2
        go_ret
        exact ⟨by rw [HQ.out]; rfl, HB.out⟩
    · have m1 : (e.f1 == t.f0) = false := beq_eq_false_iff_ne.2 a1
      have HQ : Veil (relB t e = false) := ⟨by rw [HR.out, m0, m1]; rfl⟩
      clear a0 a1 HR
      go_enter Try.func81, Try.ntmps81
      go_wp2
      go_ret
      exact ⟨by rw [HQ.out]; rfl, HB.out⟩
  · have m0 : (e.f0 == 4) = false := beq_eq_false_iff_ne.2 a0
    have HQ : Veil (relB t e = false) := ⟨by rw [HR.out, m0]; rfl⟩
    clear a0 HR
    go_enter Try.func81, Try.ntmps81
    go_wp2
    go_ret
    exact ⟨by rw [HQ.out]; rfl, HB.out⟩

theorem eve_at {w : World} {A : Option Addr} {l : List Ev} (h : kEv.C w A l.length l) (k : Nat) (hk : k < l.length) :
    ∃ ad, A = some ad ∧ w.cell? (ad.add (k * 7)) = some (.int .i64 l[k].f0) ∧ w.cell? ⟨(ad.add (k * 7)).block, (ad.add (k * 7)).off + 1, none⟩ = some (.int .i64 l[k].f1) ∧ w.cell? ⟨(ad.add (k * 7)).block, (ad.add (k * 7)).off + 2, none⟩ = some (.int .i64 l[k].f2) ∧
      w.cell? ⟨(ad.add (k * 7)).block, (ad.add (k * 7)).off + 3, none⟩ = some (.int .i64 l[k].f3) ∧ w.cell? ⟨(ad.add (k * 7)).block, (ad.add (k * 7)).off + 4, none⟩ = some (.int .i64 l[k].f4) ∧ w.cell? ⟨(ad.add (k * 7)).block, (ad.add (k * 7)).off + 5, none⟩ = some (.int .i64 l[k].f5) ∧
      w.cell? ⟨(ad.add (k * 7)).block, (ad.add (k * 7)).off + 6, none⟩ = some (.int .i64 l[k].f6) := by
  obtain ⟨ad, rfl, h0, h1, h2, h3, h4, h5, h6⟩ := at_T31 h (k : Int) (by omega) (by omega)
  have hx : rd_T31 l (k : Int) = l[k] := by unfold rd_T31; simp [List.getD, hk]
  simp only [Int.toNat_natCast, hx] at h0 h1 h2 h3 h4 h5 h6
  exact ⟨ad, rfl, h0, h1, h2, h3, h4, h5, h6⟩
/-- The three cells that are asked. -/
structure Three (w : World) (b : Nat) (t : Tr) : Prop where
  c0 : w.cell? ⟨b, 0, none⟩ = some (.int .i64 t.f0)
  c1 : w.cell? ⟨b, 1, none⟩ = some (.int .i64 t.f1)
  c2 : w.cell? ⟨b, 2, none⟩ = some (.int .i64 t.f2)
theorem Three.below {w w' : World} {b : Nat} {t : Tr} (h : Three w b t) (hb : Below w.heap.size w w') : Three w' b t :=
  have e : ∀ o v, w.cell? o = some v → w'.cell? o = some v := fun o v hv => (hb.cell (p := o) (World.block_lt_of_cell? w _ hv)).trans hv
  ⟨e _ _ h.c0, e _ _ h.c1, e _ _ h.c2⟩

set_option maxHeartbeats 1600000 in
theorem indexE_any (w : World) (A : Option Addr) (c : Nat) (xs : List Ev) (b : Nat) (t : Tr) (hC : kEv.C w A xs.length xs) (hc : xs.length ≤ 1000000) (hb : Three w b t) :
    Calls Try.prog 105 #[.slice A xs.length c, .func (.func 81) #[] #[.pointer (some ⟨b, 0, none⟩)]] w
      fun e w' => e = .returned (.int .i64 (firstAt (relB t) xs 0)) ∧ Below w.heap.size w w' := by
  have HC := Veil.mk hC
  have HB := Veil.mk hb
  have HL := Veil.mk hc
  clear hC hb hc
  go_enter Try.func105, Try.ntmps105
  go_wp2
  go_loopw [5, 8] (fun v5 v8 wr => ∃ k : Nat, k ≤ xs.length ∧ v8 = .int .i64 k ∧ Veil (firstAt (relB t) xs 0 = firstAt (relB t) (xs.drop k) k) ∧ Veil (Below w.heap.size w wr)) (fun _ v8 _ => xs.length - (intOf v8).toNat)
  case atStart => exact ⟨0, Nat.zero_le _, rfl, ⟨by simp⟩, ⟨Below.refl _ _⟩⟩
  case round =>
    obtain ⟨k, hk, rfl, HF, HW⟩ := hrel
    have hm := HL.out
    by_cases hlt : k < xs.length
    · obtain ⟨ad, rfl, h0, h1, h2, h3, h4, h5, h6⟩ := eve_at (Kd.C_below HC.out HW.out) k hlt
      have hlti : decide ((k : Int) < (xs.length : Int)) = true := decide_eq_true (by omega)
      have d2 : (k : Int) < (xs.length : Int) := by omega
      have HX : Veil (xs.drop k = xs[k] :: xs.drop (k + 1)) := ⟨List.drop_eq_getElem_cons hlt⟩
      obtain ⟨x, hx⟩ : ∃ x, xs[k] = x := ⟨_, rfl⟩
      rw [hx] at h0 h1 h2 h3 h4 h5 h6 HX
      clear hx
      have HB3 := Veil.mk (HB.out.below HW.out)
      cases hp : relB t x with
      | true =>
        have HR : Veil (firstAt (relB t) xs 0 = (k : Int)) := ⟨by rw [HF.out, HX.out, firstAt, if_pos hp]⟩
        have HQ := Veil.mk hp
        clear hp
        go_wp2_with (go_at_call 81; refine (rel1_any _ x b t HB3.out.c0 HB3.out.c1 HB3.out.c2).mono ?_; rintro e w' ⟨rfl, hbw⟩; rw [HQ.out]; have HW2 := Veil.mk (below_of HW.out hbw); clear hbw)
        go_ret
        exact ⟨by rw [HR.out]; rfl, HW2.out⟩
      | false =>
        have HR : Veil (firstAt (relB t) xs 0 = firstAt (relB t) (xs.drop (k + 1)) ((k + 1 : Nat) : Int)) := ⟨by rw [HF.out, HX.out, firstAt, if_neg (by simp [hp])]; rfl⟩
        have HQ := Veil.mk hp
        clear hp
        go_wp2_with (go_at_call 81; refine (rel1_any _ x b t HB3.out.c0 HB3.out.c1 HB3.out.c2).mono ?_; rintro e w' ⟨rfl, hbw⟩; rw [HQ.out]; have HW2 := Veil.mk (below_of HW.out hbw); clear hbw)
        go_roundw
        case rel => exact ⟨k + 1, by omega, by go_num, HR, HW2⟩
        case measure => simp [intOf]; omega
    · have hkl : k = xs.length := by omega
      have HR : Veil (firstAt (relB t) xs 0 = -1) := ⟨by rw [HF.out, hkl, List.drop_length]; rfl⟩
      have hlti : decide ((k : Int) < (xs.length : Int)) = false := decide_eq_false (by omega)
      clear hkl
      go_wp2
      go_ret
      exact ⟨by rw [HR.out]; rfl, HW.out⟩
set_option maxHeartbeats 1600000 in
theorem containsE_any (w : World) (A : Option Addr) (c : Nat) (xs : List Ev) (b : Nat) (t : Tr) (hC : kEv.C w A xs.length xs) (hc : xs.length ≤ 1000000) (hb : Three w b t) :
    Calls Try.prog 80 #[.slice A xs.length c, .func (.func 81) #[] #[.pointer (some ⟨b, 0, none⟩)]] w
      fun e w' => e = .returned (.bool (xs.any (relB t))) ∧ Below w.heap.size w w' := by
  have HC := Veil.mk hC
  have HB := Veil.mk hb
  have HL := Veil.mk hc
  have HA := Veil.mk (firstAt_lt (relB t) xs 0 (by omega))
  clear hC hb hc
  go_enter Try.func80, Try.ntmps80
  go_wp2_with (go_at_call 105; refine (indexE_any _ A c xs b t HC.out HL.out HB.out).mono ?_; rintro e w' ⟨rfl, hbw⟩; have HW := Veil.mk hbw; clear hbw)
  go_ret
  exact ⟨by rw [HA.out]; rfl, HW.out⟩
set_option maxHeartbeats 1600000 in
theorem released_any (w : World) (A : Option Addr) (c : Nat) (xs : List Ev) (t : Tr) (A8 : Option Addr) (c8 : Nat) (hC : kEv.C w A xs.length xs) (hc : xs.length ≤ 1000000) :
    Calls Try.prog 65 #[.slice A xs.length c, .agg #[.int .i64 t.f0, .int .i64 t.f1, .int .i64 t.f2, .int .i64 t.f3, .int .i64 t.f4, .int .i64 t.f5, .int .i64 t.f6, .bool t.f7, .slice A8 t.f8.length c8]] w
      fun e w' => e = .returned (.bool (xs.any (relB t))) ∧ Below w.heap.size w w' := by
  have HB := Veil.mk ((Below.refl w.heap.size w).alloc (Nat.le_refl _) (.cells #[.int .i64 t.f0, .int .i64 t.f1, .int .i64 t.f2, .int .i64 t.f3, .int .i64 t.f4, .int .i64 t.f5, .int .i64 t.f6, .bool t.f7, .slice A8 t.f8.length c8] 29))
  have hX := Blk.new w #[.int .i64 t.f0, .int .i64 t.f1, .int .i64 t.f2, .int .i64 t.f3, .int .i64 t.f4, .int .i64 t.f5, .int .i64 t.f6, .bool t.f7, .slice A8 t.f8.length c8] 29
  have HT : Veil (Three (w.alloc (.cells #[.int .i64 t.f0, .int .i64 t.f1, .int .i64 t.f2, .int .i64 t.f3, .int .i64 t.f4, .int .i64 t.f5, .int .i64 t.f6, .bool t.f7, .slice A8 t.f8.length c8] 29)) w.heap.size t) := ⟨⟨hX.cell 0 _ rfl, hX.cell 1 _ rfl, hX.cell 2 _ rfl⟩⟩
  have HC := Veil.mk (Kd.C_below hC HB.out)
  have HL := Veil.mk hc
  clear hX hC hc
  go_enter Try.func65, Try.ntmps65
  go_wp2_with (first | (go_at_call 80; go_must (refine (containsE_any _ A c xs w.heap.size t HC.out HL.out HT.out).mono ?_; rintro ed w2 ⟨rfl, hb⟩; have HB2 := Veil.mk (below_of HB.out hb); clear hb)))
  go_ret
  exact ⟨rfl, HB2.out⟩

set_option maxHeartbeats 1600000 in
set_option maxRecDepth 100000 in
theorem equal_any (w : World) (A B : Option Addr) (c d : Nat) (xs ys : List Int) (hC : kI.C w A xs.length xs) (hD : kI.C w B ys.length ys) (hl : xs.length ≤ 1000000) (hm : ys.length ≤ 1000000) :
    Calls Try.prog 67 #[.slice A xs.length c, .slice B ys.length d] w fun e w' => e = .returned (.bool (decide (xs = ys))) ∧ Below w.heap.size w w' := by
  have HC := Veil.mk hC
  have HD := Veil.mk hD
  clear hC hD
  by_cases he : xs.length = ys.length
  · rw [← he] at HD ⊢
    have HE := Veil.mk he
    clear he hm
    go_enter Try.func67, Try.ntmps67
    go_wp2_with fail
    go_loopw [5, 13] (fun v5 v13 wr => ∃ k : Nat, k ≤ xs.length ∧ v13 = .int .i64 k ∧ Veil (xs.take k = ys.take k) ∧ Veil (Below w.heap.size w wr)) (fun _ v13 _ => xs.length - (intOf v13).toNat)
    case atStart => exact ⟨0, Nat.zero_le _, rfl, ⟨by simp⟩, ⟨Below.refl _ _⟩⟩
    case round =>
      obtain ⟨k, hk, rfl, HT, HB⟩ := hrel
      by_cases hlt : k < xs.length
      · have hlt' : k < ys.length := by have := HE.out; omega
        have d1 : decide ((k : Int) < (xs.length : Int)) = true := decide_eq_true (by omega)
        have d2 : (k : Int) < (xs.length : Int) := by omega
        have hD' := Kd.C_below HD.out HB.out
        rw [HE.out] at hD'
        obtain ⟨ad, rfl, x0⟩ := int_at (Kd.C_below HC.out HB.out) k hlt
        obtain ⟨be, rfl, y0⟩ := int_at hD' k hlt'
        have HX := Veil.mk (show xs.take (k + 1) = xs.take k ++ [xs[k]] from List.take_succ_eq_append_getElem hlt)
        have HY := Veil.mk (show ys.take (k + 1) = ys.take k ++ [ys[k]] from List.take_succ_eq_append_getElem hlt')
        have HN : Veil (xs[k] ≠ ys[k] → decide (xs = ys) = false) := ⟨fun h => decide_eq_false (fun h' => h (by subst h'; rfl))⟩
        obtain ⟨x, hx⟩ : ∃ x, xs[k] = x := ⟨_, rfl⟩
        obtain ⟨y, hy⟩ : ∃ y, ys[k] = y := ⟨_, rfl⟩
        rw [hx] at x0 HX HN
        rw [hy] at y0 HY HN
        clear hx hy hD'
        by_cases hxy : x = y
        · subst hxy
          go_wp2_with fail
          go_quiet (fail)
          go_wp2
          exact ⟨⟨k + 1, by omega, by go_num, ⟨by rw [HX.out, HY.out, HT.out]⟩, ⟨HB.out.drewN _⟩⟩, by simp [intOf]; omega⟩
        · have m0 : (x != y) = true := by simp [hxy]
          have HF := Veil.mk (HN.out hxy)
          clear hxy
          go_wp2_with fail
          go_quiet (fail)
          go_wp2
          go_ret
          exact ⟨by rw [HF.out]; rfl, HB.out.drewN _⟩
      · have d1 : decide ((k : Int) < (xs.length : Int)) = false := decide_eq_false (by omega)
        have HF : Veil (decide (xs = ys) = true) := ⟨decide_eq_true (by have h := HT.out; have := HE.out; rwa [List.take_of_length_le (by omega), List.take_of_length_le (by omega)] at h)⟩
        go_wp2
        go_ret
        exact ⟨by rw [HF.out]; rfl, HB.out⟩
  · have d0 : (xs.length != ys.length) = true := by simp; omega
    have hn : decide (xs = ys) = false := decide_eq_false (fun h => he (by rw [h]))
    go_enter Try.func67, Try.ntmps67
    go_wp2
    go_ret
    exact ⟨by rw [hn]; rfl, Below.refl _ _⟩
end Go.Proofs.Ytjmnbbflahacoaa.Lang
