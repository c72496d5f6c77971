/- ModelFits's walk: true for all values and any try. No condition. -/
import Derived.Test.YtjmnbbflahacoaaModF
import Derived.Test.YtjmnbbflahacoaaWalkApart
namespace Go.Proofs.Ytjmnbbflahacoaa.Model
open Go.RowKit Go.Proofs.Ytjmnbbflahacoaa.Mem Go.Proofs.Ytjmnbbflahacoaa.Hist Go.Proofs.Ytjmnbbflahacoaa.PHistTells Go.Proofs.YtjmnbbflahacoaaW.PrintWords
set_option linter.unusedVariables false
set_option linter.unusedSimpArgs false

theorem trP_below {w w' : World} {b : Nat} {t : Tr} {row : Value} (h : trP w b t row) (hb : Below w.heap.size w w') : trP w' b t row := by
  unfold trP at h ⊢
  have e : ∀ o v, w.cell? ⟨b, o, none⟩ = some v → w'.cell? ⟨b, o, none⟩ = some v := fun o v hv => (hb.cell (p := ⟨b, o, none⟩) (World.block_lt_of_cell? w _ hv)).trans hv
  exact ⟨e _ _ h.1, e _ _ h.2.1, e _ _ h.2.2.1, e _ _ h.2.2.2.1, e _ _ h.2.2.2.2.1, e _ _ h.2.2.2.2.2.1, e _ _ h.2.2.2.2.2.2.1, e _ _ h.2.2.2.2.2.2.2.1, e _ _ h.2.2.2.2.2.2.2.2⟩
theorem trP_new (w : World) (T : Nat) (t : Tr) (A8 : Option Addr) (n c : Nat) : trP (w.alloc (.cells #[.int .i64 t.f0, .int .i64 t.f1, .int .i64 t.f2, .int .i64 t.f3, .int .i64 t.f4, .int .i64 t.f5, .int .i64 t.f6, .bool t.f7, .slice A8 n c] T)) w.heap.size t (.slice A8 n c) :=
  tr_cells (Blk.new w _ T)

set_option maxHeartbeats 8000000 in
set_option maxRecDepth 100000 in
theorem modelFits_any (w : World) (A : Option Addr) (c : Nat) (vs : List Int) (t : Tr) (A8 : Option Addr) (c8 : Nat) (hC : kI.C w A vs.length vs) (hA : kAcc.C w A8 t.f8.length t.f8) (hok : ∀ a ∈ t.f8, (Lit.int .i64 a.f2).wf = true) :
    Calls Try.prog 11 #[.slice A vs.length c, .agg #[.int .i64 t.f0, .int .i64 t.f1, .int .i64 t.f2, .int .i64 t.f3, .int .i64 t.f4, .int .i64 t.f5, .int .i64 t.f6, .bool t.f7, .slice A8 t.f8.length c8]] w
      fun e w' => e = .returned (.bool true) ∧ Below w.heap.size w w' := by
  have HC := Veil.mk hC
  have HA := Veil.mk hA
  have HO := Veil.mk hok
  have HS0 := Veil.mk (trP_new w 29 t A8 t.f8.length c8)
  have HB0 := Veil.mk ((Below.refl w.heap.size w).alloc (Nat.le_refl _) (.cells #[.int .i64 t.f0, .int .i64 t.f1, .int .i64 t.f2, .int .i64 t.f3, .int .i64 t.f4, .int .i64 t.f5, .int .i64 t.f6, .bool t.f7, .slice A8 t.f8.length c8] 29))
  clear hC hA hok
  by_cases h20 : 20 < vs.length
  · have g0 : decide ((20 : Int) < (vs.length : Int)) = true := decide_eq_true (by omega)
    clear h20
    go_enter Try.func11, Try.ntmps11
    go_wp2_with (first | (go_at_call 29; refine (alive18_any _).mono ?_; rintro ed w1 ⟨rfl, hb⟩; have HX := Veil.mk (below_of HB0.out hb); clear hb))
    go_ret
    exact ⟨rfl, HX.out⟩
  have g0 : decide ((20 : Int) < (vs.length : Int)) = false := decide_eq_false (by omega)
  by_cases h50 : 50 < t.f8.length
  · have g1 : decide ((50 : Int) < (t.f8.length : Int)) = true := decide_eq_true (by omega)
    clear h20 h50
    go_enter Try.func11, Try.ntmps11
    go_wp2_with (first | (go_at_call 29; refine (alive18_any _).mono ?_; rintro ed w1 ⟨rfl, hb⟩; have HX := Veil.mk (below_of HB0.out hb); have HT := Veil.mk (trP_below HS0.out hb); have hcc := HT.out; unfold trP at hcc; obtain ⟨p0, p1, p2, p3, p4, p5, p6, p7, p8⟩ := hcc; clear hb))
    go_ret
    exact ⟨rfl, HX.out⟩
  have g1 : decide ((50 : Int) < (t.f8.length : Int)) = false := decide_eq_false (by omega)
  have HL : Veil (vs.length ≤ 1000000 ∧ t.f8.length ≤ 1000000) := ⟨by omega⟩
  clear h20 h50
  have HOL := Veil.mk (applyM_length t.f8 vs)
  go_enter Try.func11, Try.ntmps11
  go_wp2_with (first | (go_at_call 29; refine (alive18_any _).mono ?_; rintro ed w1 ⟨rfl, hb⟩; have HX := Veil.mk (below_of HB0.out hb); have HT := Veil.mk (trP_below HS0.out hb); have hcc := HT.out; unfold trP at hcc; obtain ⟨p0, p1, p2, p3, p4, p5, p6, p7, p8⟩ := hcc; clear hb) | (go_at_call 36; go_must (refine (plain_any _ t A8 c8 (Kd.C_below HA.out HX.out) HL.out.2).mono ?_; rintro ed w2 ⟨B8, d8, rfl, hv, hb⟩; have HX2 := Veil.mk (below_of HX.out hb); have HT2 := Veil.mk (trP_below HT.out hb); have HV2 := Veil.mk hv; clear hb hv)))
  have HBN := Veil.mk ((Below.refl w2.heap.size w2).alloc (Nat.le_refl _) (.cells #[.int .i64 t.f0, .int .i64 t.f1, .int .i64 t.f2, .int .i64 t.f3, .int .i64 t.f4, .int .i64 t.f5, .int .i64 t.f6, .bool t.f7, .slice B8 t.f8.length d8] 43))
  have HX3 := Veil.mk (below_of HX2.out HBN.out)
  have HT3 := Veil.mk (And.intro (trP_below HT2.out HBN.out) (trP_new w2 43 t B8 t.f8.length d8))
  have HV3 := Veil.mk (Kd.C_below HV2.out HBN.out)
  generalize w2.alloc (.cells #[.int .i64 t.f0, .int .i64 t.f1, .int .i64 t.f2, .int .i64 t.f3, .int .i64 t.f4, .int .i64 t.f5, .int .i64 t.f6, .bool t.f7, .slice B8 t.f8.length d8] 43) = w3 at *
  clear p0 p1 p2 p3 p4 p5 p6 p7 p8 HBN
  have HSB : Veil (∀ wa wb : World, Below wa.heap.size wa wb → trP wa w.heap.size t (.slice A8 t.f8.length c8) ∧ trP wa w2.heap.size t (.slice B8 t.f8.length d8) → trP wb w.heap.size t (.slice A8 t.f8.length c8) ∧ trP wb w2.heap.size t (.slice B8 t.f8.length d8)) := ⟨fun wa wb hb h => ⟨trP_below h.1 hb, trP_below h.2 hb⟩⟩
  refine wp_region_X (fun w' => trP w' w.heap.size t (.slice A8 t.f8.length c8) ∧ trP w' w2.heap.size t (.slice B8 t.f8.length d8)) [] (by kernel_rfl) ?_
  have hS0 : trP w3.drew w.heap.size t (.slice A8 t.f8.length c8) ∧ trP w3.drew w2.heap.size t (.slice B8 t.f8.length d8) := HSB.out _ _ (Below.refl _ _).drew HT3.out
  unfold trP at hS0 ⊢
  refine wpAnyX_take (i := 0) (v := ?_) rfl (by kernel_rfl) (by kernel_rfl) (by kernel_rfl) (by kernel_rfl) (fun _ _ _ h => h) (Or.inl ⟨by rfl, ?_⟩) (by assumption) ?_
  rotate_left 1
  · intro w hSw; (try dsimp only at hSw); go_split_ands; (first | (go_simp; done) | (go_simp; with_reducible rfl))
  try simp only [Act.put, List.setIfInBounds_toArray, List.set_cons_zero, List.set_cons_succ]
  refine wpAnyX_take (i := 1) (v := ?_) rfl (by kernel_rfl) (by kernel_rfl) (by kernel_rfl) (by kernel_rfl) (fun _ _ _ h => h) (Or.inl ⟨by rfl, ?_⟩) (by assumption) ?_
  rotate_left 1
  · intro w hSw; (try dsimp only at hSw); go_split_ands; (first | (go_simp; done) | (go_simp; with_reducible rfl))
  try simp only [Act.put, List.setIfInBounds_toArray, List.set_cons_zero, List.set_cons_succ]
  refine wpAnyX_take (i := 3) (v := ?_) rfl (by kernel_rfl) (by kernel_rfl) (by kernel_rfl) (by kernel_rfl) (fun _ _ _ h => h) (Or.inl ⟨by rfl, ?_⟩) (by assumption) ?_
  rotate_left 1
  · intro w hSw; (try dsimp only at hSw); go_split_ands; (first | (go_simp; done) | (go_simp; with_reducible rfl))
  try simp only [Act.put, List.setIfInBounds_toArray, List.set_cons_zero, List.set_cons_succ]
  refine wpAnyX_take (i := 4) (v := ?_) rfl (by kernel_rfl) (by kernel_rfl) (by kernel_rfl) (by kernel_rfl) (fun _ _ _ h => h) (Or.inl ⟨by rfl, ?_⟩) (by assumption) ?_
  rotate_left 1
  · intro w hSw; (try dsimp only at hSw); go_split_ands; (first | (go_simp; done) | (go_simp; with_reducible rfl))
  try simp only [Act.put, List.setIfInBounds_toArray, List.set_cons_zero, List.set_cons_succ]
  clear hS0
  refine wpAnyX_one (i := 2) (by kernel_rfl) rfl (fun K hK => ?_)
  go_simp
  refine (apply_any _ A c vs t A8 c8 (Kd.C_below HC.out (HX3.out.drew)) HL.out.1 (Kd.C_below HA.out HX3.out.drew) HL.out.2).mono ?_
  rintro e1 w5 ⟨v5, rfl, hv5, hb5⟩
  obtain ⟨A5, c5, rfl, _, hC5⟩ := Kd.R_reads hv5
  have HB5 := Veil.mk (((Below.refl w3.heap.size w3).drew).trans hb5)
  have HX5 := Veil.mk (below_of HX3.out HB5.out)
  have HT5 := Veil.mk (HSB.out _ _ HB5.out HT3.out)
  have HV5 := Veil.mk (Kd.C_below HV3.out HB5.out)
  have HC5 := Veil.mk hC5
  clear hv5 hb5 hC5
  dsimp only
  refine hK.out _ _ (fun _ => HT5.out) ?_
  clear hK K
  try simp only [Act.put, List.setIfInBounds_toArray, List.set_cons_zero, List.set_cons_succ]
  refine wpAnyX_one (i := 5) (by kernel_rfl) rfl (fun K hK => ?_)
  go_simp
  refine (refapply_any _ A c vs t B8 d8 (Kd.C_below HC.out HX5.out) HL.out.1 HV5.out HL.out.2).mono ?_
  rintro e1 w6 ⟨v6, rfl, hv6, hb6⟩
  obtain ⟨A6, c6, rfl, _, hC6⟩ := Kd.R_reads hv6
  have HX6 := Veil.mk (below_of HX5.out hb6)
  have HT6 := Veil.mk (HSB.out _ _ hb6 HT5.out)
  have HV6 := Veil.mk (Kd.C_below HV5.out hb6)
  have HC56 := Veil.mk (Kd.C_below HC5.out hb6)
  have HC6 := Veil.mk hC6
  clear hv6 hb6 hC6
  dsimp only
  refine hK.out _ _ (fun _ => HT6.out) ?_
  clear hK K
  try simp only [Act.put, List.setIfInBounds_toArray, List.set_cons_zero, List.set_cons_succ]
  refine wpAnyX_one (i := 6) (by kernel_rfl) rfl (fun K hK => ?_)
  go_simp
  refine (vals_any _ A5 A6 c5 c6 (applyM vs t.f8) (applyM vs t.f8) HC56.out HC6.out (by rw [HOL.out]; exact HL.out.1) (by rw [HOL.out]; exact HL.out.1)).mono ?_
  rintro e1 w8 ⟨rfl, hb8⟩
  rw [decide_eq_true (rfl : applyM vs t.f8 = applyM vs t.f8)]
  have HX8 := Veil.mk (below_of HX6.out hb8)
  have HT8 := Veil.mk (HSB.out _ _ hb8 HT6.out)
  have HV8 := Veil.mk (Kd.C_below HV6.out hb8)
  clear hb8
  dsimp only
  refine hK.out _ _ (fun _ => HT8.out) ?_
  clear hK K
  try simp only [Act.put, List.setIfInBounds_toArray, List.set_cons_zero, List.set_cons_succ]
  have hS0 := HT8.out
  unfold trP at hS0
  refine wpAnyX_take (i := 7) (v := ?_) rfl (by kernel_rfl) (by kernel_rfl) (by kernel_rfl) (by kernel_rfl) (fun _ _ _ h => h) (Or.inl ⟨by rfl, ?_⟩) (by assumption) ?_
  rotate_left 1
  · intro w hSw; (try dsimp only at hSw); go_split_ands; (first | (go_simp; done) | (go_simp; with_reducible rfl))
  try simp only [Act.put, List.setIfInBounds_toArray, List.set_cons_zero, List.set_cons_succ]
  refine wpAnyX_take (i := 8) (v := ?_) rfl (by kernel_rfl) (by kernel_rfl) (by kernel_rfl) (by kernel_rfl) (fun _ _ _ h => h) (Or.inl ⟨by rfl, ?_⟩) (by assumption) ?_
  rotate_left 1
  · intro w hSw; (try dsimp only at hSw); go_split_ands; (first | (go_simp; done) | (go_simp; with_reducible rfl))
  try simp only [Act.put, List.setIfInBounds_toArray, List.set_cons_zero, List.set_cons_succ]
  refine wpAnyX_take (i := 9) (v := ?_) rfl (by kernel_rfl) (by kernel_rfl) (by kernel_rfl) (by kernel_rfl) (fun _ _ _ h => h) (Or.inl ⟨by rfl, ?_⟩) (by assumption) ?_
  rotate_left 1
  · intro w hSw; (try dsimp only at hSw); go_split_ands; (first | (go_simp; done) | (go_simp; with_reducible rfl))
  try simp only [Act.put, List.setIfInBounds_toArray, List.set_cons_zero, List.set_cons_succ]
  refine wpAnyX_take (i := 11) (v := ?_) rfl (by kernel_rfl) (by kernel_rfl) (by kernel_rfl) (by kernel_rfl) (fun _ _ _ h => h) (Or.inl ⟨by rfl, ?_⟩) (by assumption) ?_
  rotate_left 1
  · intro w hSw; (try dsimp only at hSw); go_split_ands; (first | (go_simp; done) | (go_simp; with_reducible rfl))
  try simp only [Act.put, List.setIfInBounds_toArray, List.set_cons_zero, List.set_cons_succ]
  refine wpAnyX_take (i := 12) (v := ?_) rfl (by kernel_rfl) (by kernel_rfl) (by kernel_rfl) (by kernel_rfl) (fun _ _ _ h => h) (Or.inl ⟨by rfl, ?_⟩) (by assumption) ?_
  rotate_left 1
  · intro w hSw; (try dsimp only at hSw); go_split_ands; (first | (go_simp; done) | (go_simp; with_reducible rfl))
  try simp only [Act.put, List.setIfInBounds_toArray, List.set_cons_zero, List.set_cons_succ]
  clear hS0
  refine wpAnyX_one (i := 10) (by kernel_rfl) rfl (fun K hK => ?_)
  go_simp
  refine (fits_any _ A c vs t A8 c8 (Kd.C_below HC.out HX8.out) HL.out.1 (Kd.C_below HA.out HX8.out) HL.out.2 HO.out).mono ?_
  rintro e1 w9 ⟨rfl, hb9⟩
  have HX9 := Veil.mk (below_of HX8.out hb9)
  have HT9 := Veil.mk (HSB.out _ _ hb9 HT8.out)
  have HV9 := Veil.mk (Kd.C_below HV8.out hb9)
  clear hb9
  dsimp only
  refine hK.out _ _ (fun _ => HT9.out) ?_
  clear hK K
  try simp only [Act.put, List.setIfInBounds_toArray, List.set_cons_zero, List.set_cons_succ]
  refine wpAnyX_one (i := 13) (by kernel_rfl) rfl (fun K hK => ?_)
  go_simp
  refine (reffits_any _ A c vs t B8 d8 (Kd.C_below HC.out HX9.out) HL.out.1 HV9.out HL.out.2).mono ?_
  rintro e1 w10 ⟨rfl, hb10⟩
  have HX10 := Veil.mk (below_of HX9.out hb10)
  have HT10 := Veil.mk (HSB.out _ _ hb10 HT9.out)
  clear hb10
  dsimp only
  refine hK.out _ _ (fun _ => HT10.out) ?_
  clear hK K
  try simp only [Act.put, List.setIfInBounds_toArray, List.set_cons_zero, List.set_cons_succ]
  refine wpAnyX_one (i := 14) (by kernel_rfl) rfl (fun K hK => ?_)
  go_simp
  refine hK.out _ _ (fun _ => HT10.out) ?_
  clear hK K
  try simp only [Act.put, List.setIfInBounds_toArray, List.set_cons_zero, List.set_cons_succ]
  refine wpAnyX_one (i := 15) (by kernel_rfl) rfl (fun K hK => ?_)
  go_simp
  refine hK.out _ _ (fun _ => HT10.out) ?_
  clear hK K
  try simp only [Act.put, List.setIfInBounds_toArray, List.set_cons_zero, List.set_cons_succ]
  refine wpAnyX_one (i := 16) (by kernel_rfl) rfl (fun K hK => ?_)
  go_simp
  refine hK.out _ _ (fun _ => HT10.out) ?_
  clear hK K
  refine wpAnyX_done (by kernel_rfl) ?_ _
  go_wp2
  go_ret
  exact ⟨by simp, HX10.out⟩
end Go.Proofs.Ytjmnbbflahacoaa.Model
