/- ModelApart's walk: true for all values and any two tries. No condition. -/
import Derived.Test.YtjmnbbflahacoaaModA
import Derived.Test.YtjmnbbflahacoaaModF
import Derived.Test.YtjmnbbflahacoaaBase
import Derived.Deep.DeepCutAuto
namespace Go.Proofs.Ytjmnbbflahacoaa.Model
open Go.RowKit Go.Proofs.Ytjmnbbflahacoaa.Mem Go.Proofs.Ytjmnbbflahacoaa.Hist Go.Proofs.Ytjmnbbflahacoaa.PHistTells Go.Proofs.YtjmnbbflahacoaaW.PrintWords
set_option linter.unusedVariables false
set_option linter.unusedSimpArgs false

theorem accAt {w : World} {A : Option Addr} {l : List Acc} (h : kAcc.C w A l.length l) (k : Nat) (hk : k < l.length) :
    ∃ ad, A = some ad ∧ w.cell? ⟨(ad.add (k * 6)).block, (ad.add (k * 6)).off + 1, none⟩ = some (.int .i64 l[k].f1) ∧ w.cell? ⟨(ad.add (k * 6)).block, (ad.add (k * 6)).off + 2, none⟩ = some (.int .i64 l[k].f2) := by
  obtain ⟨ad, rfl, h0, h1, h2, h3, h4, h5⟩ := at_T33 h (k : Int) (by omega) (by omega)
  have hx : rd_T33 l (k : Int) = l[k] := by unfold rd_T33; simp [List.getD, hk]
  simp only [Int.toNat_natCast, hx] at h1 h2
  exact ⟨ad, rfl, h1, h2⟩

/-- Two tries, boxed. -/
structure TwoAt (w : World) (b1 b2 : Nat) (s t : Tr) (r1 r2 : Value) : Prop where
  x : Blk w b1 29 (trC s r1)
  y : Blk w b2 29 (trC t r2)
theorem TwoAt.below {w w' : World} {b1 b2 : Nat} {s t : Tr} {r1 r2 : Value} (h : TwoAt w b1 b2 s t r1 r2) (hb : Below w.heap.size w w') : TwoAt w' b1 b2 s t r1 r2 := ⟨h.x.below hb h.x.lt, h.y.below hb h.y.lt⟩
theorem two_start (w : World) (s t : Tr) (A8 B8 : Option Addr) (n m c d : Nat) :
    TwoAt ((w.alloc (.cells #[.int .i64 s.f0, .int .i64 s.f1, .int .i64 s.f2, .int .i64 s.f3, .int .i64 s.f4, .int .i64 s.f5, .int .i64 s.f6, .bool s.f7, .slice A8 n c] 29)).alloc (.cells #[.int .i64 t.f0, .int .i64 t.f1, .int .i64 t.f2, .int .i64 t.f3, .int .i64 t.f4, .int .i64 t.f5, .int .i64 t.f6, .bool t.f7, .slice B8 m d] 29)) w.heap.size (w.heap.size + 1) s t (.slice A8 n c) (.slice B8 m d) ∧
    Below w.heap.size w ((w.alloc (.cells #[.int .i64 s.f0, .int .i64 s.f1, .int .i64 s.f2, .int .i64 s.f3, .int .i64 s.f4, .int .i64 s.f5, .int .i64 s.f6, .bool s.f7, .slice A8 n c] 29)).alloc (.cells #[.int .i64 t.f0, .int .i64 t.f1, .int .i64 t.f2, .int .i64 t.f3, .int .i64 t.f4, .int .i64 t.f5, .int .i64 t.f6, .bool t.f7, .slice B8 m d] 29)) := by
  refine ⟨⟨(Blk.new w _ _).alloc _, ?_⟩, ((Below.refl _ _).alloc (Nat.le_refl _) _).alloc (by simp) _⟩
  have := Blk.new (w.alloc (.cells #[.int .i64 s.f0, .int .i64 s.f1, .int .i64 s.f2, .int .i64 s.f3, .int .i64 s.f4, .int .i64 s.f5, .int .i64 s.f6, .bool s.f7, .slice A8 n c] 29)) #[.int .i64 t.f0, .int .i64 t.f1, .int .i64 t.f2, .int .i64 t.f3, .int .i64 t.f4, .int .i64 t.f5, .int .i64 t.f6, .bool t.f7, .slice B8 m d] 29
  rw [World.size_alloc] at this
  exact this

def trP (w : World) (b : Nat) (t : Tr) (row : Value) : Prop := w.cell? ⟨b, 0, none⟩ = some (.int .i64 t.f0) ∧ w.cell? ⟨b, 1, none⟩ = some (.int .i64 t.f1) ∧ w.cell? ⟨b, 2, none⟩ = some (.int .i64 t.f2) ∧ w.cell? ⟨b, 3, none⟩ = some (.int .i64 t.f3) ∧
    w.cell? ⟨b, 4, none⟩ = some (.int .i64 t.f4) ∧ w.cell? ⟨b, 5, none⟩ = some (.int .i64 t.f5) ∧ w.cell? ⟨b, 6, none⟩ = some (.int .i64 t.f6) ∧ w.cell? ⟨b, 7, none⟩ = some (.bool t.f7) ∧ w.cell? ⟨b, 8, none⟩ = some row
theorem TwoAt.cells {w : World} {b1 b2 : Nat} {s t : Tr} {r1 r2 : Value} (h : TwoAt w b1 b2 s t r1 r2) : trP w b1 s r1 ∧ trP w b2 t r2 := ⟨tr_cells h.x, tr_cells h.y⟩

set_option maxHeartbeats 8000000 in
set_option maxRecDepth 100000 in
theorem modelApart_any (w : World) (A : Option Addr) (c : Nat) (vs : List Int) (s t : Tr) (A8 B8 : Option Addr) (c8 d8 : Nat) (hC : kI.C w A vs.length vs) (hA : kAcc.C w A8 s.f8.length s.f8) (hB : kAcc.C w B8 t.f8.length t.f8) :
    Calls Try.prog 8 #[.slice A vs.length c, .agg #[.int .i64 s.f0, .int .i64 s.f1, .int .i64 s.f2, .int .i64 s.f3, .int .i64 s.f4, .int .i64 s.f5, .int .i64 s.f6, .bool s.f7, .slice A8 s.f8.length c8], .agg #[.int .i64 t.f0, .int .i64 t.f1, .int .i64 t.f2, .int .i64 t.f3, .int .i64 t.f4, .int .i64 t.f5, .int .i64 t.f6, .bool t.f7, .slice B8 t.f8.length d8]] w
      fun e w' => e = .returned (.bool true) ∧ Below w.heap.size w w' := by
  have HC := Veil.mk hC
  have HA := Veil.mk hA
  have HB := Veil.mk hB
  have HS0 := Veil.mk (two_start w s t A8 B8 s.f8.length t.f8.length c8 d8)
  clear hC hA hB
  by_cases h20 : 20 < vs.length
  · have g0 : decide ((20 : Int) < (vs.length : Int)) = true := decide_eq_true (by omega)
    clear h20
    go_enter Try.func8, Try.ntmps8
    go_wp2_with (first | (go_at_call 29; refine (alive18_any _).mono ?_; rintro ed w1 ⟨rfl, hb⟩; have HX := Veil.mk (HS0.out.2.trans (hb.mono HS0.out.2.size)); clear hb))
    go_ret
    exact ⟨rfl, HX.out⟩
  have g0 : decide ((20 : Int) < (vs.length : Int)) = false := decide_eq_false (by omega)
  by_cases h50 : 50 < s.f8.length
  · have g1 : decide ((50 : Int) < (s.f8.length : Int)) = true := decide_eq_true (by omega)
    clear h20 h50
    go_enter Try.func8, Try.ntmps8
    go_wp2_with (first | (go_at_call 29; refine (alive18_any _).mono ?_; rintro ed w1 ⟨rfl, hb⟩; have HX := Veil.mk (HS0.out.2.trans (hb.mono HS0.out.2.size)); have HT := Veil.mk (HS0.out.1.below hb); have p8 := HT.out.x.cell 8 _ rfl; have q8 := HT.out.y.cell 8 _ rfl; clear hb))
    go_ret
    exact ⟨rfl, HX.out⟩
  have g1 : decide ((50 : Int) < (s.f8.length : Int)) = false := decide_eq_false (by omega)
  by_cases h51 : 50 < t.f8.length
  · have g2 : decide ((50 : Int) < (t.f8.length : Int)) = true := decide_eq_true (by omega)
    clear h20 h50 h51
    go_enter Try.func8, Try.ntmps8
    go_wp2_with (first | (go_at_call 29; refine (alive18_any _).mono ?_; rintro ed w1 ⟨rfl, hb⟩; have HX := Veil.mk (HS0.out.2.trans (hb.mono HS0.out.2.size)); have HT := Veil.mk (HS0.out.1.below hb); have p8 := HT.out.x.cell 8 _ rfl; have q8 := HT.out.y.cell 8 _ rfl; clear hb))
    go_ret
    exact ⟨rfl, HX.out⟩
  have g2 : decide ((50 : Int) < (t.f8.length : Int)) = false := decide_eq_false (by omega)
  have HL : Veil (vs.length ≤ 1000000 ∧ s.f8.length ≤ 1000000 ∧ t.f8.length ≤ 1000000) := ⟨by omega⟩
  have hs50 : s.f8.length ≤ 50 := by omega
  have ht50 : t.f8.length ≤ 50 := by omega
  clear h20 h50 h51
  have HTW := Veil.mk (apply_twice vs s.f8)
  have HOL := Veil.mk (applyM_length s.f8 vs)
  have HAP := Veil.mk (apply_apart vs s.f8 t.f8)
  have hne : (((applyM vs s.f8).length : Int) != (vs.length : Int)) = false := by rw [HOL.out]; simp
  go_enter Try.func8, Try.ntmps8
  go_wp2_with (first | (go_at_call 29; refine (alive18_any _).mono ?_; rintro ed w1 ⟨rfl, hb⟩; have HX := Veil.mk (HS0.out.2.trans (hb.mono HS0.out.2.size)); have HT := Veil.mk (HS0.out.1.below hb); have hcc := tr_cells HT.out.x; obtain ⟨p0, p1, p2, p3, p4, p5, p6, p7, p8⟩ := hcc; have q8 := HT.out.y.cell 8 _ rfl; clear hb) | (go_at_call 30; with_reducible refine (apply_any _ A c vs s A8 c8 (Kd.C_below HC.out HX.out) HL.out.1 (Kd.C_below HA.out HX.out) HL.out.2.1).mono ?_; go_must (rintro ed w2 ⟨v, rfl, hv, hb⟩; have HX2 := Veil.mk (below_of HX.out hb); have HT2 := Veil.mk (HT.out.below hb); have hvr := Kd.R_reads hv; obtain ⟨Ao, co, rfl, _, hO⟩ := hvr; have HO := Veil.mk hO; clear hv hb hO; have hcc := tr_cells HT2.out.x; obtain ⟨p0, p1, p2, p3, p4, p5, p6, p7, p8⟩ := hcc)) | (go_at_call 30; with_reducible refine (apply_any _ Ao co (applyM vs s.f8) s A8 c8 HO.out (by rw [HOL.out]; exact HL.out.1) (Kd.C_below HA.out HX2.out) HL.out.2.1).mono ?_; go_must (rintro ed w3 ⟨v, rfl, hv, hb⟩; rw [HTW.out] at hv; have HX3 := Veil.mk (below_of HX2.out hb); have HT3 := Veil.mk (HT2.out.below hb); have HO3 := Veil.mk (Kd.C_below HO.out hb); have hvr := Kd.R_reads hv; obtain ⟨Ap, cp, rfl, _, hO⟩ := hvr; have HP := Veil.mk hO; clear hv hb hO)) | (go_at_call 31; with_reducible refine (vals_any _ Ap Ao cp co (applyM vs s.f8) (applyM vs s.f8) HP.out HO3.out (by rw [HOL.out]; exact HL.out.1) (by rw [HOL.out]; exact HL.out.1)).mono ?_; go_must (rintro ed w4 ⟨rfl, hb⟩; rw [decide_eq_true (rfl : applyM vs s.f8 = applyM vs s.f8)]; have HX4 := Veil.mk (below_of HX3.out hb); have HT4 := Veil.mk (HT3.out.below hb); have HO4 := Veil.mk (Kd.C_below HO3.out hb); have p8 := HT4.out.x.cell 8 _ rfl; have q8 := HT4.out.y.cell 8 _ rfl; clear hb)))
  clear p8 q8
  go_loopw [8] (fun v8 wr => ∃ i : Nat, i ≤ s.f8.length ∧ v8 = .int .i64 i ∧ Veil (∀ a ∈ s.f8.take i, ∀ b ∈ t.f8, clash a b = false) ∧ Veil (Below w4.heap.size w4 wr)) (fun v8 _ => s.f8.length - (intOf v8).toNat)
  case atStart => exact ⟨0, Nat.zero_le _, rfl, ⟨by simp⟩, ⟨Below.refl _ _⟩⟩
  case round =>
    obtain ⟨i, hi, rfl, HI, HW⟩ := hrel
    have HTW4 := Veil.mk (HT4.out.below HW.out)
    have HXW := Veil.mk (HX4.out.trans (HW.out.mono HX4.out.size))
    by_cases hil : i < s.f8.length
    · have d1 : decide ((i : Int) < (s.f8.length : Int)) = true := decide_eq_true (by omega)
      have p8 := HTW4.out.x.cell 8 _ rfl
      go_wp2_with fail
      clear p8
      go_loopw [9] (fun v9 wr => ∃ k : Nat, k ≤ t.f8.length ∧ v9 = .int .i64 k ∧ Veil (∀ b ∈ t.f8.take k, clash s.f8[i] b = false) ∧ Veil (Below w4.heap.size w4 wr)) (fun v9 _ => t.f8.length - (intOf v9).toNat)
      case atStart => exact ⟨0, Nat.zero_le _, rfl, ⟨by simp⟩, HW⟩
      case round =>
        obtain ⟨k, hk, rfl, HK, HW2⟩ := hrel
        have HTW5 := Veil.mk (HT4.out.below HW2.out)
        have HXW2 := Veil.mk (HX4.out.trans (HW2.out.mono HX4.out.size))
        have p8 := HTW5.out.x.cell 8 _ rfl
        have q8 := HTW5.out.y.cell 8 _ rfl
        by_cases hkl : k < t.f8.length
        · have e1 : decide ((k : Int) < (t.f8.length : Int)) = true := decide_eq_true (by omega)
          have e2 : (k : Int) < (t.f8.length : Int) := by omega
          have e3 : (i : Int) < (s.f8.length : Int) := by omega
          obtain ⟨ad, rfl, x1, x2⟩ := accAt (Kd.C_below HA.out HXW2.out) i hil
          obtain ⟨be, rfl, y1, y2⟩ := accAt (Kd.C_below HB.out HXW2.out) k hkl
          have HNX : Veil (clash s.f8[i] t.f8[k] = false → ∀ b ∈ t.f8.take (k + 1), clash s.f8[i] b = false) := ⟨fun h b hb => by
            rw [List.take_succ_eq_append_getElem hkl, List.mem_append, List.mem_singleton] at hb
            rcases hb with hb | rfl
            · exact HK.out b hb
            · exact h⟩
          generalize s.f8[i] = a at x1 x2 HNX HK
          generalize t.f8[k] = b at y1 y2 HNX
          cases m0 : (a.f1 == 3) with
          | true =>
            cases m1 : (b.f1 == 3) with
            | true =>
              cases m2 : (a.f2 == b.f2) with
              | true =>
                go_wp2_with fail
                go_quiet (fail)
                go_wp2
                go_ret
                exact ⟨rfl, HXW2.out.drewN _⟩
              | false =>
                have HF : Veil (clash a b = false) := ⟨by unfold clash; rw [m0, m1, m2]; rfl⟩
                go_wp2_with fail
                go_quiet (fail)
                go_wp2
                exact ⟨⟨k + 1, by omega, by go_num, ⟨HNX.out HF.out⟩, ⟨HW2.out.drewN _⟩⟩, by simp [intOf]; omega⟩
            | false =>
              have HF : Veil (clash a b = false) := ⟨by unfold clash; rw [m0, m1]; rfl⟩
              go_wp2_with fail
              go_quiet (fail)
              go_wp2
              exact ⟨⟨k + 1, by omega, by go_num, ⟨HNX.out HF.out⟩, ⟨HW2.out.drewN _⟩⟩, by simp [intOf]; omega⟩
          | false =>
            have HF : Veil (clash a b = false) := ⟨by unfold clash; rw [m0]; rfl⟩
            go_wp2_with fail
            go_quiet (fail)
            go_wp2
            exact ⟨⟨k + 1, by omega, by go_num, ⟨HNX.out HF.out⟩, ⟨HW2.out.drewN _⟩⟩, by simp [intOf]; omega⟩
        · have e1 : decide ((k : Int) < (t.f8.length : Int)) = false := decide_eq_false (by omega)
          have HF : Veil (∀ a ∈ s.f8.take (i + 1), ∀ b ∈ t.f8, clash a b = false) := ⟨fun a ha b hb => by
            rw [List.take_succ_eq_append_getElem hil, List.mem_append, List.mem_singleton] at ha
            rcases ha with ha | rfl
            · exact HI.out a ha b hb
            · exact HK.out b (by rw [show k = t.f8.length by omega, List.take_length]; exact hb)⟩
          go_wp2
          exact ⟨⟨i + 1, by omega, by go_num, HF, HW2⟩, by simp [intOf]; omega⟩
    · have d1 : decide ((i : Int) < (s.f8.length : Int)) = false := decide_eq_false (by omega)
      have HE : Veil (applyM (applyM vs s.f8) t.f8 = applyM (applyM vs t.f8) s.f8) := ⟨HAP.out (fun a ha b hb => HI.out a (by rw [show i = s.f8.length by omega, List.take_length]; exact ha) b hb)⟩
      have p8 := HTW4.out.x.cell 8 _ rfl
      have HO5 := Veil.mk (Kd.C_below HO4.out HW.out)
      have HLA : Veil ((applyM vs s.f8).length ≤ 1000000 ∧ (applyM vs t.f8).length ≤ 1000000 ∧ (applyM (applyM vs s.f8) t.f8).length ≤ 1000000) := ⟨by rw [applyM_length, applyM_length, applyM_length, applyM_length]; exact ⟨HL.out.1, HL.out.1, HL.out.1⟩⟩
      go_wp2_with fail
      clear p8
      refine wp_region_X (fun w' => trP w' w.heap.size s (.slice A8 s.f8.length c8) ∧ trP w' (w.heap.size + 1) t (.slice B8 t.f8.length d8)) [] (by kernel_rfl) ?_
      have hS0 : trP wr.drew w.heap.size s (.slice A8 s.f8.length c8) ∧ trP wr.drew (w.heap.size + 1) t (.slice B8 t.f8.length d8) := HTW4.out.cells
      unfold trP at hS0 ⊢
      refine wpAnyX_take (i := 0) (v := ?_) rfl (by kernel_rfl) (by kernel_rfl) (by kernel_rfl) (by kernel_rfl) (fun _ _ _ h => h) (Or.inl ⟨by rfl, ?_⟩) (by assumption) ?_
      rotate_left 1
      · intro w hSw; (try dsimp only at hSw); go_split_ands; (first | (go_simp; done) | (go_simp; with_reducible rfl))
      try simp only [Act.put, List.setIfInBounds_toArray, List.set_cons_zero, List.set_cons_succ]
      refine wpAnyX_take (i := 1) (v := ?_) rfl (by kernel_rfl) (by kernel_rfl) (by kernel_rfl) (by kernel_rfl) (fun _ _ _ h => h) (Or.inl ⟨by rfl, ?_⟩) (by assumption) ?_
      rotate_left 1
      · intro w hSw; (try dsimp only at hSw); go_split_ands; (first | (go_simp; done) | (go_simp; with_reducible rfl))
      try simp only [Act.put, List.setIfInBounds_toArray, List.set_cons_zero, List.set_cons_succ]
      refine wpAnyX_take (i := 3) (v := ?_) rfl (by kernel_rfl) (by kernel_rfl) (by kernel_rfl) (by kernel_rfl) (fun _ _ _ h => h) (Or.inl ⟨by rfl, ?_⟩) (by assumption) ?_
      rotate_left 1
      · intro w hSw; (try dsimp only at hSw); go_split_ands; (first | (go_simp; done) | (go_simp; with_reducible rfl))
      try simp only [Act.put, List.setIfInBounds_toArray, List.set_cons_zero, List.set_cons_succ]
      refine wpAnyX_take (i := 4) (v := ?_) rfl (by kernel_rfl) (by kernel_rfl) (by kernel_rfl) (by kernel_rfl) (fun _ _ _ h => h) (Or.inl ⟨by rfl, ?_⟩) (by assumption) ?_
      rotate_left 1
      · intro w hSw; (try dsimp only at hSw); go_split_ands; (first | (go_simp; done) | (go_simp; with_reducible rfl))
      try simp only [Act.put, List.setIfInBounds_toArray, List.set_cons_zero, List.set_cons_succ]
      refine wpAnyX_take (i := 6) (v := ?_) rfl (by kernel_rfl) (by kernel_rfl) (by kernel_rfl) (by kernel_rfl) (fun _ _ _ h => h) (Or.inl ⟨by rfl, ?_⟩) (by assumption) ?_
      rotate_left 1
      · intro w hSw; (try dsimp only at hSw); go_split_ands; (first | (go_simp; done) | (go_simp; with_reducible rfl))
      try simp only [Act.put, List.setIfInBounds_toArray, List.set_cons_zero, List.set_cons_succ]
      clear hS0
      refine wpAnyX_one (i := 2) (by kernel_rfl) rfl (fun K hK => ?_)
      go_simp
      refine (apply_any _ Ao co (applyM vs s.f8) t B8 d8 (Kd.C_below HO5.out ((Below.refl _ _).drew)) HLA.out.1 (Kd.C_below HB.out HXW.out.drew) HL.out.2.2).mono ?_
      rintro e1 w5 ⟨v5, rfl, hv5, hb5⟩
      obtain ⟨A5, c5, rfl, _, hC5⟩ := Kd.R_reads hv5
      have HB5 := Veil.mk (((Below.refl wr.heap.size wr).drew).trans hb5)
      have HX5 := Veil.mk (HXW.out.trans (HB5.out.mono HXW.out.size))
      have HT5 := Veil.mk (HTW4.out.below HB5.out)
      have HC5 := Veil.mk hC5
      clear hv5 hb5 hC5
      dsimp only
      refine hK.out _ _ (fun _ => HT5.out.cells) ?_
      clear hK K
      try simp only [Act.put, List.setIfInBounds_toArray, List.set_cons_zero, List.set_cons_succ]
      refine wpAnyX_one (i := 5) (by kernel_rfl) rfl (fun K hK => ?_)
      go_simp
      refine (apply_any _ A c vs t B8 d8 (Kd.C_below HC.out HX5.out) HL.out.1 (Kd.C_below HB.out HX5.out) HL.out.2.2).mono ?_
      rintro e1 w6 ⟨v6, rfl, hv6, hb6⟩
      obtain ⟨A6, c6, rfl, _, hC6⟩ := Kd.R_reads hv6
      have HX6 := Veil.mk (below_of HX5.out hb6)
      have HT6 := Veil.mk (HT5.out.below hb6)
      have HC56 := Veil.mk (Kd.C_below HC5.out hb6)
      have HC6 := Veil.mk hC6
      clear hv6 hb6 hC6
      dsimp only
      refine hK.out _ _ (fun _ => HT6.out.cells) ?_
      clear hK K
      try simp only [Act.put, List.setIfInBounds_toArray, List.set_cons_zero, List.set_cons_succ]
      refine wpAnyX_one (i := 7) (by kernel_rfl) rfl (fun K hK => ?_)
      go_simp
      refine (apply_any _ A6 c6 (applyM vs t.f8) s A8 c8 HC6.out HLA.out.2.1 (Kd.C_below HA.out HX6.out) HL.out.2.1).mono ?_
      rintro e1 w7 ⟨v7, rfl, hv7, hb7⟩
      rw [← HE.out] at hv7
      obtain ⟨A7, c7, rfl, _, hC7⟩ := Kd.R_reads hv7
      have HX7 := Veil.mk (below_of HX6.out hb7)
      have HT7 := Veil.mk (HT6.out.below hb7)
      have HC57 := Veil.mk (Kd.C_below HC56.out hb7)
      have HC7 := Veil.mk hC7
      clear hv7 hb7 hC7
      dsimp only
      refine hK.out _ _ (fun _ => HT7.out.cells) ?_
      clear hK K
      try simp only [Act.put, List.setIfInBounds_toArray, List.set_cons_zero, List.set_cons_succ]
      refine wpAnyX_one (i := 8) (by kernel_rfl) rfl (fun K hK => ?_)
      go_simp
      refine (vals_any _ A5 A7 c5 c7 (applyM (applyM vs s.f8) t.f8) (applyM (applyM vs s.f8) t.f8) HC57.out HC7.out HLA.out.2.2 HLA.out.2.2).mono ?_
      rintro e1 w8 ⟨rfl, hb8⟩
      rw [decide_eq_true (rfl : applyM (applyM vs s.f8) t.f8 = applyM (applyM vs s.f8) t.f8)]
      have HX8 := Veil.mk (below_of HX7.out hb8)
      have HT8 := Veil.mk (HT7.out.below hb8)
      clear hb8
      dsimp only
      refine hK.out _ _ (fun _ => HT8.out.cells) ?_
      clear hK K
      try simp only [Act.put, List.setIfInBounds_toArray, List.set_cons_zero, List.set_cons_succ]
      refine wpAnyX_one (i := 9) (by kernel_rfl) rfl (fun K hK => ?_)
      go_simp
      refine hK.out _ _ (fun _ => HT8.out.cells) ?_
      clear hK K
      refine wpAnyX_done (by kernel_rfl) ?_ _
      go_wp2
      go_ret
      exact ⟨rfl, HX8.out⟩
end Go.Proofs.Ytjmnbbflahacoaa.Model
