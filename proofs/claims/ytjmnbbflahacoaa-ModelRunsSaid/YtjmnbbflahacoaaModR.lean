/- The document's Fits and Apply, walked. No condition. -/
import Derived.Test.YtjmnbbflahacoaaRefX
import Derived.Test.YtjmnbbflahacoaaModF
namespace Go.Proofs.Ytjmnbbflahacoaa.Model
open Go.RowKit Go.Proofs.Ytjmnbbflahacoaa.Mem Go.Proofs.Ytjmnbbflahacoaa.Hist Go.Proofs.Ytjmnbbflahacoaa.PHistTells Go.Proofs.YtjmnbbflahacoaaW.PrintWords
set_option linter.unusedVariables false
set_option linter.unusedSimpArgs false

theorem lastW_next (l : List Acc) (o : Nat) (d : Int) {k : Nat} (h : k < l.length) : lastW (l.take (k + 1)) o d = one1 o (lastW (l.take k) o d) l[k] := by
  unfold lastW
  rw [List.take_succ_eq_append_getElem h, List.foldl_append]
  rfl
theorem applyM_take (vs : List Int) (l : List Acc) {o : Nat} (h : o < vs.length) : (applyM vs l).take (o + 1) = (applyM vs l).take o ++ [lastW l o vs[o]] := by
  have hl : o < (applyM vs l).length := by rw [applyM_length]; exact h
  rw [List.take_succ_eq_append_getElem hl]
  congr 2
  have := applyM_get l vs o
  rw [List.getElem?_eq_getElem hl, List.getElem?_eq_getElem h] at this
  simpa using this
set_option maxHeartbeats 8000000 in
set_option maxRecDepth 100000 in
theorem refapply_any (w : World) (A : Option Addr) (c : Nat) (vs : List Int) (t : Tr) (A8 : Option Addr) (c8 : Nat) (hC : kI.C w A vs.length vs) (hl : vs.length ≤ 1000000) (hT : kAcc.C w A8 t.f8.length t.f8) (ht : t.f8.length ≤ 1000000) :
    Calls Try.prog 37 #[.slice A vs.length c, .agg #[.int .i64 t.f0, .int .i64 t.f1, .int .i64 t.f2, .int .i64 t.f3, .int .i64 t.f4, .int .i64 t.f5, .int .i64 t.f6, .bool t.f7, .slice A8 t.f8.length c8]] w
      fun e w' => ∃ v, e = .returned v ∧ kI.R 2 w' w.heap.size (fun _ => True) v (applyM vs t.f8) ∧ Below w.heap.size w w' := by
  have HC := Veil.mk hC
  have HL := Veil.mk hl
  have HT := Veil.mk hT
  have HTL := Veil.mk ht
  have HX1 := Veil.mk (Blk.new w #[.int .i64 t.f0, .int .i64 t.f1, .int .i64 t.f2, .int .i64 t.f3, .int .i64 t.f4, .int .i64 t.f5, .int .i64 t.f6, .bool t.f7, .slice A8 t.f8.length c8] 43)
  have HB1 := Veil.mk ((Below.refl w.heap.size w).alloc (Nat.le_refl _) (.cells #[.int .i64 t.f0, .int .i64 t.f1, .int .i64 t.f2, .int .i64 t.f3, .int .i64 t.f4, .int .i64 t.f5, .int .i64 t.f6, .bool t.f7, .slice A8 t.f8.length c8] 43))
  clear hC hl hT ht
  go_enter Try.func37, Try.ntmps37
  go_wp2
  generalize w.alloc (.cells #[.int .i64 t.f0, .int .i64 t.f1, .int .i64 t.f2, .int .i64 t.f3, .int .i64 t.f4, .int .i64 t.f5, .int .i64 t.f6, .bool t.f7, .slice A8 t.f8.length c8] 43) = w1 at *
  go_loopw [5, 6] (fun v5 v6 wr => ∃ o : Nat, o ≤ vs.length ∧ v6 = .int .i64 o ∧ Veil (kI.R 2 wr w1.heap.size (fun _ => True) v5 ((applyM vs t.f8).take o)) ∧ Veil (Below w1.heap.size w1 wr)) (fun _ v6 _ => vs.length - (intOf v6).toNat)
  case atStart => exact ⟨0, Nat.zero_le _, rfl, ⟨by rw [List.take_zero]; exact Kd.R_nil _ _ _ _ _⟩, ⟨Below.refl _ _⟩⟩
  case round =>
    obtain ⟨o, ho, rfl, HO, HB⟩ := hrel
    have htl := HTL.out
    have hvl := HL.out
    have HBW := Veil.mk (below_of HB1.out HB.out)
    by_cases hlt : o < vs.length
    · have d1 : decide ((o : Int) < (vs.length : Int)) = true := decide_eq_true (by omega)
      have d2 : (o : Int) < (vs.length : Int) := by omega
      obtain ⟨av, rfl, x0⟩ := int_at (Kd.C_below HC.out HBW.out) o hlt
      have HN := Veil.mk (applyM_take vs t.f8 hlt)
      obtain ⟨x, hx⟩ : ∃ x, vs[o] = x := ⟨_, rfl⟩
      rw [hx] at x0 HN
      clear hx
      go_wp2_with fail
      go_loopw [7, 8] (fun v7 v8 wx => ∃ k : Nat, k ≤ t.f8.length ∧ v8 = .int .i64 k ∧ v7 = .int .i64 (lastW (t.f8.take k) o x) ∧ Veil (Below wr.heap.size wr wx)) (fun _ v8 _ => t.f8.length - (intOf v8).toNat)
      case atStart => exact ⟨0, Nat.zero_le _, rfl, rfl, ⟨Below.refl _ _⟩⟩
      case round =>
        obtain ⟨k, hk, rfl, rfl, HY⟩ := hrel
        clear x0
        have HBX := Veil.mk (below_of HB.out HY.out)
        have HBXW := Veil.mk (below_of HB1.out HBX.out)
        have p8 := (HX1.out.below HBX.out HX1.out.lt).cell 8 _ rfl
        by_cases hkl : k < t.f8.length
        · have e1 : decide ((k : Int) < (t.f8.length : Int)) = true := decide_eq_true (by omega)
          have e2 : (k : Int) < (t.f8.length : Int) := by omega
          obtain ⟨ad, rfl, z0, z1, z2, z3, z4, z5⟩ := acc_at (Kd.C_below HT.out HBXW.out) k hkl
          have HLW := Veil.mk (lastW_next t.f8 o x hkl)
          obtain ⟨b, hb⟩ : ∃ b, t.f8[k] = b := ⟨_, rfl⟩
          rw [hb] at z0 z1 z2 z3 z4 z5 HLW
          clear hb z0 z4 z5
          cases m0 : (b.f1 == 3) with
          | false =>
            have HQ : Veil (lastW (t.f8.take (k + 1)) o x = lastW (t.f8.take k) o x) := ⟨by rw [HLW.out]; unfold one1; rw [if_neg (fun h => by rw [h.1] at m0; simp at m0)]⟩
            go_wp2
            exact ⟨⟨k + 1, by omega, by go_num, by rw [HQ.out], HY⟩, by simp [intOf]; omega⟩
          | true =>
            cases m1 : (b.f2 == (o : Int)) with
            | false =>
              have HQ : Veil (lastW (t.f8.take (k + 1)) o x = lastW (t.f8.take k) o x) := ⟨by rw [HLW.out]; unfold one1; rw [if_neg (fun h => by rw [h.2] at m1; simp at m1)]⟩
              go_wp2
              exact ⟨⟨k + 1, by omega, by go_num, by rw [HQ.out], HY⟩, by simp [intOf]; omega⟩
            | true =>
              have HQ : Veil (lastW (t.f8.take (k + 1)) o x = b.f3) := ⟨by rw [HLW.out]; unfold one1; rw [if_pos ⟨by simpa using m0, by simpa using m1⟩]⟩
              go_wp2
              exact ⟨⟨k + 1, by omega, by go_num, by rw [HQ.out], HY⟩, by simp [intOf]; omega⟩
        · have e1 : decide ((k : Int) < (t.f8.length : Int)) = false := decide_eq_false (by omega)
          have hkk : k = t.f8.length := by omega
          have HLL : Veil (lastW (t.f8.take k) o x = lastW t.f8 o x) := ⟨by rw [hkk, List.take_length]⟩
          have HLN : Veil (((applyM vs t.f8).take o).length ≤ 1000000) := ⟨by rw [List.length_take]; omega⟩
          have HR := Veil.mk (Kd.R_below HO.out HY.out)
          obtain ⟨y, hy⟩ : ∃ y, lastW (t.f8.take k) o x = y := ⟨_, rfl⟩
          rw [← HLL.out, hy] at HN
          obtain ⟨out, hout⟩ : ∃ out, (applyM vs t.f8).take o = out := ⟨_, rfl⟩
          rw [hout] at HN HLN HR
          rw [hy]
          clear hy hout HLL hkk
          go_wp2_with (first | ((with_reducible refine gate_builtin (b := .append) (xs := #[.tmp 49, .tmp 51]) rfl ?_); at_builtin; go_must (refine Kd.R_append kI (w0 := w1) w1.heap.size rfl (.tmp 49) (.tmp 51) 47 2 (.int .i64 0) 8 rfl Try.underlying47 infoI rfl (Nat.succ_pos 0) (Nat.succ_pos 7) u5 out y _ (fun _ => True) (fun _ => False) ?hs ?hx ?hp ?hq (fun _ _ => trivial) ?ho ?hb ?hz ?hl ?_); go_must (case hs => rfl); go_must (case hx => rfl); go_must (case ho => exact HR.out); go_must (case hb => exact HBX.out); go_must (case hz => exact HBX.out.size); go_must (case hl => have := HLN.out; omega); go_must (case hq => exact fun _ h => h.elim); go_must (case hp => rfl); intro v1 w6 hR hB6 hg hat; have HRN := Veil.mk hR; have HB6 := Veil.mk hB6; clear hR hB6 hg hat))
          exact ⟨⟨o + 1, by omega, by go_num, ⟨by rw [HN.out]; exact HRN.out⟩, HB6⟩, by simp [intOf]; omega⟩
    · have d1 : decide ((o : Int) < (vs.length : Int)) = false := decide_eq_false (by omega)
      have hoo : o = vs.length := by omega
      have HE : Veil ((applyM vs t.f8).take o = applyM vs t.f8) := ⟨by rw [hoo, ← applyM_length t.f8 vs, List.take_length]⟩
      go_wp2
      go_ret
      exact ⟨_, rfl, by rw [← HE.out]; exact Kd.R_lower HO.out HB1.out.size, HBW.out⟩
end Go.Proofs.Ytjmnbbflahacoaa.Model
/- A try, told as the document's. No condition. -/
namespace Go.Proofs.Ytjmnbbflahacoaa.Model
open Go.RowKit Go.Proofs.Ytjmnbbflahacoaa.Mem Go.Proofs.Ytjmnbbflahacoaa.Hist Go.Proofs.Ytjmnbbflahacoaa.PHistTells Go.Proofs.YtjmnbbflahacoaaW.PrintWords
set_option linter.unusedVariables false
set_option linter.unusedSimpArgs false

/-- What stands while the accesses are told. -/
structure PlainAt (w wr : World) (t : Tr) (A8 : Option Addr) (c8 : Nat) (k : Nat) (row : Value) : Prop where
  box : Blk wr w.heap.size 29 (trC t (.slice A8 t.f8.length c8))
  res : Blk wr (w.heap.size + 1) 43 [.int .i64 0, .int .i64 0, .int .i64 0, .int .i64 0, .int .i64 0, .int .i64 0, .int .i64 0, .bool false, .slice none 0 0]
  sc : Scan wr (w.heap.size + 1 + 1) (w.heap.size + 1 + 1) (withAcc t (t.f8.take k)) row (.slice none 0 0) []
  below : Below w.heap.size w wr
theorem PlainAt.step {w wr w' : World} {t : Tr} {A8 : Option Addr} {c8 k : Nat} {row : Value} (h : PlainAt w wr t A8 c8 k row) (hb : Below wr.heap.size wr w') : PlainAt w w' t A8 c8 k row :=
  ⟨h.box.below hb h.box.lt, h.res.below hb h.res.lt, h.sc.below hb, below_of h.below hb⟩
def ninth (W : World) (b : Nat) (t : Tr) (row : Value) : World := ((((((((W.setCell ⟨b, 0, none⟩ (.int .i64 t.f0)).setCell ⟨b, 1, none⟩ (.int .i64 t.f1)).setCell ⟨b, 2, none⟩ (.int .i64 t.f2)).setCell ⟨b, 3, none⟩ (.int .i64 t.f3)).setCell ⟨b, 4, none⟩ (.int .i64 t.f4)).setCell ⟨b, 5, none⟩ (.int .i64 t.f5)).setCell ⟨b, 6, none⟩ (.int .i64 t.f6)).setCell ⟨b, 7, none⟩ (.bool t.f7)).setCell ⟨b, 8, none⟩ row
end Go.Proofs.Ytjmnbbflahacoaa.Model
