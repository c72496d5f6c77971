/- model, first part: slices.Clone of numbers, and Apply. No condition. -/
import Derived.Test.YtjmnbbflahacoaaHistM
import Derived.Lib.SliceRun
namespace Go.Proofs.Ytjmnbbflahacoaa.Hist
open Go.RowKit Go.Proofs.Ytjmnbbflahacoaa.Mem Go.Proofs.Ytjmnbbflahacoaa.PHistTells Go.Proofs.YtjmnbbflahacoaaW.PrintWords
set_option linter.unusedVariables false
set_option linter.unusedSimpArgs false

abbrev kI : Kd Int := Kd.int .i64
theorem infoI : (Try.prog.info? 2).map (fun i => (i.zero, i.size, i.bytes)) = some (some (.int .i64 0), 1, 8) := by kernel_rfl
theorem C_none {α : Type} {d : Kd α} {w : World} {n : Nat} {xs : List α} (h : d.C w none n xs) : xs = [] := by
  obtain ⟨h1, _, h3⟩ := h
  cases xs with
  | nil => rfl
  | cons x xs =>
    obtain ⟨ad, he, _⟩ := h3 (by rw [← h1]; simp)
    cases he

set_option maxHeartbeats 1600000 in
set_option maxRecDepth 100000 in
theorem clone_any (w : World) (A : Option Addr) (c : Nat) (xs : List Int) (hC : kI.C w A xs.length xs) (hl : xs.length ≤ 1000000) :
    Calls Try.prog 63 #[.slice A xs.length c] w fun e w' => ∃ v, e = .returned v ∧ kI.R 2 w' w.heap.size (fun _ => True) v xs ∧ Below w.heap.size w w' := by
  have HC := Veil.mk hC
  have HL := Veil.mk hl
  have HB := Veil.mk (Below.refl w.heap.size w)
  have qn : ∀ (w : World) (a : Option Addr) (n c n' c' : Nat), (binOp .eql 47 (.slice a n c) (.slice none n' c')).run Try.prog w = .ok (.bool a.isNone) w := fun w a n c n' c' => Lib.run_eql_slice_nil w _ _ a n c n' c' Try.underlying47
  cases A with
  | none =>
    have hx := C_none hC
    subst hx
    clear hC hl
    go_enter Try.func63, Try.ntmps63
    go_wp2
    go_ret
    exact ⟨_, rfl, Kd.R_nil _ _ _ _ _, HB.out⟩
  | some ad =>
    clear hC hl
    go_enter Try.func63, Try.ntmps63
    go_wp2_with (first | ((with_reducible refine gate_dst (N := 5) rfl ?_); refine Kd.R_lit (Kd.int .i64) _ 2 ?hg (N := 5) ?hd (xs := ([] : List Int)) (inner := []) (ok := fun _ => True) (okp := fun _ => True) ?hr ?hp (fun _ hk => hk) trivial (Below.refl _ _) (Nat.le_refl _) (by simp) ?_; (case hd => rfl); (case hg => rfl); (case hr => first | (go_simp; done) | (go_simp; rfl)); (case hp => exact (Reps.none _ _)); intro v5 w4 ho5 hb hg_ hnew_; clear hg_ hnew_; have HO5 := Veil.mk ho5; have HB4 := Veil.mk hb; clear ho5 hb) | ((with_reducible refine gate_builtin (b := .append) (xs := #[.tmp 5, .tmp 6]) rfl ?_); at_builtin; refine Kd.R_append_rows (Kd.int .i64) (w0 := w) w.heap.size rfl (.tmp 5) (.tmp 6) 47 2 (.int .i64 0) 8 rfl Try.underlying47 infoI rfl (by decide) (by omega) v5 [] xs _ _ _ (fun _ => True) (fun _ => False) rfl rfl ?aO ?aR (fun _ _ h => h) (fun _ h => h.elim) ?aF ?aB ?aS ?aL ?_; (case aR => exact Kd.C_below HC.out HB4.out); (case aB => exact HB4.out); (case aF => exact (fun _ _ => trivial)); (case aO => exact HO5.out); (case aS => exact HB4.out.size); (case aL => have := HL.out; simp; omega); intro v7 w6 ho hb hg hat; have HO7 := Veil.mk ho; have HB6 := Veil.mk hb; clear ho hb hg hat))
    go_ret
    exact ⟨_, rfl, by simpa using HO7.out, HB6.out⟩

/-- The values behind one access. -/
def put1 (vs : List Int) (a : Acc) : List Int := if a.f1 = 3 ∧ 0 ≤ a.f2 ∧ a.f2 < (vs.length : Int) then vs.set a.f2.toNat a.f3 else vs
/-- The values behind a try's accesses. -/
def applyM (vs : List Int) (l : List Acc) : List Int := l.foldl put1 vs
theorem put1_length (vs : List Int) (a : Acc) : (put1 vs a).length = vs.length := by unfold put1; split <;> simp
theorem applyM_length (l : List Acc) : ∀ vs, (applyM vs l).length = vs.length := by
  induction l with
  | nil => intro vs; rfl
  | cons a l ih => intro vs; unfold applyM at *; rw [List.foldl_cons, ih, put1_length]
theorem applyM_next (vs : List Int) (l : List Acc) {k : Nat} (h : k < l.length) : applyM vs (l.take (k + 1)) = put1 (applyM vs (l.take k)) l[k] := by
  unfold applyM
  rw [List.take_succ_eq_append_getElem h, List.foldl_append]
  rfl
theorem R_set_int {W : World} {base g n cap : Nat} {ok : Nat → Prop} {xs : List Int} (h : kI.R 2 W base ok (.slice (some ⟨g, 0, none⟩) n cap) xs) (i : Int) (x : Int) (hn : n = xs.length) :
    kI.R 2 (W.setCell ⟨g, i.toNat, none⟩ (.int .i64 x)) base ok (.slice (some ⟨g, 0, none⟩) n cap) (xs.set i.toNat x) := by
  subst hn
  exact (Kd.R_put h i x).1
theorem int_cell {W : World} {base g n cap : Nat} {ok : Nat → Prop} {xs : List Int} (h : kI.R 2 W base ok (.slice (some ⟨g, 0, none⟩) n cap) xs) (k : Nat) (hk : k < xs.length) :
    W.cell? ⟨g, k, none⟩ = some (.int .i64 xs[k]) ∧ W.frozen? ⟨g, k, none⟩ = false := by
  have hn := (Kd.R_reads' h).1
  obtain ⟨cs, hcl, hM, hcc, hfr⟩ := Kd.R_elem h 0 (k : Int) (by omega) (by omega)
  simp only [Int.toNat_natCast, List.getD_eq_getElem?_getD, List.getElem?_eq_getElem hk, Option.getD_some] at hM hcc hfr
  have hM' : cs = [.int .i64 xs[k]] := hM
  subst hM'
  have h1 := hcc 0 _ rfl
  have h2 := hfr 0
  have e : k * kI.sz + 0 = k := by show k * 1 + 0 = k; omega
  rw [e] at h1 h2
  exact ⟨h1, h2⟩

set_option maxHeartbeats 1600000 in
set_option maxRecDepth 100000 in
theorem apply_any (w : World) (A : Option Addr) (c : Nat) (vs : List Int) (t : Tr) (A8 : Option Addr) (c8 : Nat) (hC : kI.C w A vs.length vs) (hl : vs.length ≤ 1000000) (hT : kAcc.C w A8 t.f8.length t.f8) (ht : t.f8.length ≤ 1000000) :
    Calls Try.prog 30 #[.slice A vs.length c, .agg #[.int .i64 t.f0, .int .i64 t.f1, .int .i64 t.f2, .int .i64 t.f3, .int .i64 t.f4, .int .i64 t.f5, .int .i64 t.f6, .bool t.f7, .slice A8 t.f8.length c8]] w
      fun e w' => ∃ v, e = .returned v ∧ kI.R 2 w' w.heap.size (fun _ => True) v (applyM vs t.f8) ∧ Below w.heap.size w w' := by
  have HC := Veil.mk hC
  have HL := Veil.mk hl
  have HT := Veil.mk hT
  have HTL := Veil.mk ht
  clear hC hl hT ht
  go_enter Try.func30, Try.ntmps30
  have HX := Veil.mk (Blk.new w #[.int .i64 t.f0, .int .i64 t.f1, .int .i64 t.f2, .int .i64 t.f3, .int .i64 t.f4, .int .i64 t.f5, .int .i64 t.f6, .bool t.f7, .slice A8 t.f8.length c8] 29)
  have HB1 := Veil.mk ((Below.refl w.heap.size w).alloc (Nat.le_refl _) (.cells #[.int .i64 t.f0, .int .i64 t.f1, .int .i64 t.f2, .int .i64 t.f3, .int .i64 t.f4, .int .i64 t.f5, .int .i64 t.f6, .bool t.f7, .slice A8 t.f8.length c8] 29))
  go_wp2_with (first | (go_at_call 63; go_must (refine (clone_any _ A c vs (Kd.C_below HC.out HB1.out) HL.out).mono ?_; rintro ed w2 ⟨v, rfl, hv, hb⟩; have HV := Veil.mk hv; have HB2 := Veil.mk (below_of HB1.out hb); have HX2 := Veil.mk (HX.out.below hb HX.out.lt); have hrd := Kd.R_reads hv; obtain ⟨Av, cv, rfl, _, _⟩ := hrd; have q8 := HX2.out.cell 8 _ rfl; clear hv hb)))
  have HV0 := Veil.mk (Kd.R_lower HV.out HB1.out.size)
  go_loopw [13] (fun v13 wr => ∃ k : Nat, k ≤ t.f8.length ∧ v13 = .int .i64 k ∧ Veil (kI.R 2 wr w.heap.size (fun _ => True) (.slice Av vs.length cv) (applyM vs (t.f8.take k))) ∧ Veil (Below w.heap.size w wr)) (fun v13 _ => t.f8.length - (intOf v13).toNat)
  case atStart => exact ⟨0, Nat.zero_le _, rfl, HV0, HB2⟩
  case round =>
    obtain ⟨k, hk, rfl, HM, HB⟩ := hrel
    have htl := HTL.out
    have hvl := HL.out
    clear q8
    by_cases hlt : k < t.f8.length
    · have d1 : decide ((k : Int) < (t.f8.length : Int)) = true := decide_eq_true (by omega)
      have d2 : (k : Int) < (t.f8.length : Int) := by omega
      obtain ⟨ad, rfl, h0, h1, h2, h3, h4, h5⟩ := at_T33 (Kd.C_below HT.out HB.out) (k : Int) (by omega) (by omega)
      have hx : rd_T33 t.f8 (k : Int) = t.f8[k] := by unfold rd_T33; simp [List.getD, hlt]
      simp only [Int.toNat_natCast, hx] at h0 h1 h2 h3 h4 h5
      have HN := Veil.mk (applyM_next vs t.f8 hlt)
      have HLN := Veil.mk (applyM_length (t.f8.take k) vs)
      obtain ⟨a, ha⟩ : ∃ a, t.f8[k] = a := ⟨_, rfl⟩
      rw [ha] at h0 h1 h2 h3 h4 h5 HN
      clear hx ha
      obtain ⟨cur, hcur⟩ : ∃ cur, applyM vs (t.f8.take k) = cur := ⟨_, rfl⟩
      rw [hcur] at HM HN HLN
      clear hcur
      by_cases e1 : a.f1 = 3
      · have m1 : (a.f1 == 3) = true := beq_iff_eq.2 e1
        by_cases e2 : 0 ≤ a.f2
        · have m2 : decide (0 ≤ a.f2) = true := decide_eq_true e2
          by_cases e3 : a.f2 < (vs.length : Int)
          · have m3 : decide (a.f2 < (vs.length : Int)) = true := decide_eq_true e3
            have HP : Veil (put1 cur a = cur.set a.f2.toNat a.f3) := ⟨by unfold put1; rw [if_pos ⟨e1, e2, by rw [HLN.out]; exact e3⟩]⟩
            obtain ⟨g, rfl⟩ : ∃ g, Av = some ⟨g, 0, none⟩ := by
              obtain ⟨g, cap, he, _⟩ := Kd.R_form HM.out (by rw [HLN.out]; omega)
              injection he with he _ _
              exact ⟨g, he⟩
            obtain ⟨x5, y5⟩ := int_cell HM.out a.f2.toNat (by rw [HLN.out]; omega)
            have hgw : w.heap.size ≤ g := by obtain ⟨inner, ho⟩ := Kd.R_own HM.out; exact own_base ho g rfl
            have HGW := Veil.mk hgw
            have HB5 := Veil.mk ((Below.refl wr.heap.size wr).alloc (Nat.le_refl _) (.cells #[.int .i64 a.f0, .int .i64 a.f1, .int .i64 a.f2, .int .i64 a.f3, .bool a.f4, .bool a.f5] 33))
            have hglt : g < wr.heap.size := World.block_lt_of_cell? wr _ x5
            have x5' := alloc_cell x5
            have y5' := alloc_frozen (a := ⟨g, a.f2.toNat, none⟩) hglt y5
            clear e1 x5 y5 hgw
            go_wp2
            go_roundw
            case rel => exact ⟨k + 1, by omega, by go_num, ⟨by rw [HN.out, HP.out]; exact Kd.R_below (R_set_int HM.out a.f2 a.f3 (by rw [HLN.out])) ((Below.refl _ _).alloc (Nat.le_refl _) _)⟩, ⟨(HB.out.setCell (p := ⟨g, a.f2.toNat, none⟩) HGW.out _).alloc (by simpa [World.setCell] using HB.out.size) _⟩⟩
            case measure => simp [intOf]; omega
          · have m3 : decide (a.f2 < (vs.length : Int)) = false := decide_eq_false e3
            have HP : Veil (put1 cur a = cur) := ⟨by unfold put1; rw [if_neg (fun h => e3 (by have := h.2.2; rw [HLN.out] at this; exact this))]⟩
            clear e1
            go_wp2
            go_roundw
            case rel => exact ⟨k + 1, by omega, by go_num, ⟨by rw [HN.out, HP.out]; exact Kd.R_below HM.out ((Below.refl _ _).alloc (Nat.le_refl _) _)⟩, ⟨HB.out.alloc HB.out.size _⟩⟩
            case measure => simp [intOf]; omega
        · have m2 : decide (0 ≤ a.f2) = false := decide_eq_false e2
          have HP : Veil (put1 cur a = cur) := ⟨by unfold put1; rw [if_neg (fun h => e2 h.2.1)]⟩
          clear e1
          go_wp2
          go_roundw
          case rel => exact ⟨k + 1, by omega, by go_num, ⟨by rw [HN.out, HP.out]; exact Kd.R_below HM.out ((Below.refl _ _).alloc (Nat.le_refl _) _)⟩, ⟨HB.out.alloc HB.out.size _⟩⟩
          case measure => simp [intOf]; omega
      · have m1 : (a.f1 == 3) = false := beq_eq_false_iff_ne.2 e1
        have HP : Veil (put1 cur a = cur) := ⟨by unfold put1; rw [if_neg (fun h => e1 h.1)]⟩
        clear e1
        go_wp2
        go_roundw
        case rel => exact ⟨k + 1, by omega, by go_num, ⟨by rw [HN.out, HP.out]; exact Kd.R_below HM.out ((Below.refl _ _).alloc (Nat.le_refl _) _)⟩, ⟨HB.out.alloc HB.out.size _⟩⟩
        case measure => simp [intOf]; omega
    · have d1 : decide ((k : Int) < (t.f8.length : Int)) = false := decide_eq_false (by omega)
      have hM := HM.out
      rw [show k = t.f8.length by omega, List.take_length] at hM
      have HF := Veil.mk hM
      clear hM
      go_wp2
      go_ret
      exact ⟨_, rfl, HF.out, HB.out⟩
end Go.Proofs.Ytjmnbbflahacoaa.Hist
