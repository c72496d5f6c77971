/- The document's Alone (layer 11), walked. No condition. -/
import Derived.Test.YtjmnbbflahacoaaRefL
import Derived.Test.YtjmnbbflahacoaaModF
namespace Go.Proofs.Ytjmnbbflahacoaa.Lang
open Go.RowKit Go.Proofs.Ytjmnbbflahacoaa.Mem Go.Proofs.Ytjmnbbflahacoaa.Hist Go.Proofs.Ytjmnbbflahacoaa.Model Go.Proofs.YtjmnbbflahacoaaW.PrintWords
set_option linter.unusedVariables false
set_option linter.unusedSimpArgs false

set_option maxHeartbeats 16000000 in
set_option maxRecDepth 100000 in
theorem refalone_any (w : World) (A : Option Addr) (c : Nat) (l : List Op) (Av : Option Addr) (cv : Nat) (vs : List Int) (hC : kOp.C w A l.length l) (hl : l.length ≤ 1000000) (hV : kI.C w Av vs.length vs) (hvl : vs.length ≤ 1000) (hr : rightO l vs.length = true) :
    Calls Try.prog 69 #[.slice A l.length c, .slice Av vs.length cv] w
      fun e w' => ∃ v, e = .returned v ∧ kI.R 2 w' w.heap.size (fun _ => True) v (aloneM l vs) ∧ Below w.heap.size w w' := by
  have HC := Veil.mk hC
  have HV := Veil.mk hV
  have HVL := Veil.mk hvl
  have HE := Veil.mk (right_each hr)
  clear hC hl hV hvl hr
  go_enter Try.func69, Try.ntmps69
  go_wp2_with (first | ((with_reducible refine gate_dst (N := 9) rfl ?_); refine Kd.R_lit (Kd.int .i64) _ 2 ?hg (N := 9) ?hd (xs := ([] : List Int)) (inner := []) (ok := fun _ => True) (okp := fun _ => True) ?hr ?hp (fun _ hk => hk) trivial (Below.refl _ _) (Nat.le_refl _) (by simp) ?_; (case hd => rfl); (case hg => rfl); (case hr => first | (go_simp; done) | (go_simp; rfl)); (case hp => exact (Reps.none _ _)); intro v5 w4 ho5 hb hg_ hnew_; clear hg_ hnew_; have HO5 := Veil.mk ho5; have HB4 := Veil.mk hb; clear ho5 hb) | ((with_reducible refine gate_builtin (b := .append) (xs := #[.tmp 9, .tmp 10]) rfl ?_); at_builtin; refine Kd.R_append_rows (Kd.int .i64) (w0 := w) w.heap.size rfl (.tmp 9) (.tmp 10) 47 2 (.int .i64 0) 8 rfl Try.underlying47 infoI rfl (by decide) (by omega) v5 [] vs _ _ _ (fun _ => True) (fun _ => False) rfl rfl ?aO ?aR (fun _ _ h => h) (fun _ h => h.elim) ?aF ?aB ?aS ?aL ?_; (case aR => exact Kd.C_below HV.out HB4.out); (case aB => exact HB4.out); (case aF => exact (fun _ _ => trivial)); (case aO => exact HO5.out); (case aS => exact HB4.out.size); (case aL => have := HVL.out; simp; omega); intro v7 w6 ho hb hg hat; have ho' : kI.R 2 w6 w.heap.size (fun _ => True) v7 vs := (by simpa using ho); obtain ⟨B, d, rfl⟩ := Kd.R_slice ho'; have HO7 := Veil.mk ho'; have HB6 := Veil.mk hb; clear ho ho' hb hg hat))
  go_loopw [6, 7] (fun v6 v7 wr => ∃ k : Nat, k ≤ l.length ∧ v6 = .int .i64 (runO vs (l.take k)).2 ∧ v7 = .int .i64 k ∧ Veil (kI.R 2 wr w.heap.size (fun _ => True) (.slice B vs.length d) (runO vs (l.take k)).1) ∧ Veil (Below w.heap.size w wr)) (fun _ v7 _ => l.length - (intOf v7).toNat)
  case atStart => exact ⟨0, Nat.zero_le _, rfl, rfl, HO7, HB6⟩
  case round =>
    obtain ⟨k, hk, rfl, rfl, HR, HW⟩ := hrel
    have hll := HE.out.1
    have hRL : (runO vs (l.take k)).1.length = vs.length := by unfold runO; rw [runO_length]
    by_cases hlt : k < l.length
    · have d1 : decide ((k : Int) < (l.length : Int)) = true := decide_eq_true (by omega)
      have d2 : (k : Int) < (l.length : Int) := by omega
      obtain ⟨ad, rfl, h0, h1, h2⟩ := op_at (Kd.C_below HC.out HW.out) k hlt
      have hokk := HE.out.2 l[k] (List.getElem_mem hlt)
      have HN := Veil.mk (runO_next vs l hlt)
      obtain ⟨o, ho⟩ : ∃ o, l[k] = o := ⟨_, rfl⟩
      rw [ho] at h0 h1 h2 hokk HN
      obtain ⟨x, hx⟩ : ∃ x, runO vs (l.take k) = x := ⟨_, rfl⟩
      rw [hx] at HR HN hRL ⊢
      clear ho hx
      obtain ⟨us, sm⟩ := x
      dsimp only at HR hRL ⊢
      have HBA := Veil.mk ((Below.refl wr.heap.size wr).alloc (Nat.le_refl _) (.cells #[.int .i64 o.f0, .int .i64 o.f1, .int .i64 o.f2] 142))
      have HWA := Veil.mk (below_of HW.out HBA.out)
      have HRA := Veil.mk (Kd.R_below HR.out HBA.out)
      by_cases k1 : o.f0 = 1
      · as_aux_lemma =>
        have m1 : (o.f0 == 1) = true := beq_iff_eq.2 k1
        have hob := ok_obj hokk (.inl k1)
        obtain ⟨i, hi⟩ : ∃ i : Nat, o.f1 = (i : Int) := ⟨o.f1.toNat, by omega⟩
        have hil : i < us.length := by omega
        have HST : Veil (stepO (us, sm) o = (us, us[i])) := ⟨by unfold stepO; rw [if_pos k1, hi]; simp [List.getD, hil]⟩
        obtain ⟨g, cap, he, hgb, _, _⟩ := Kd.R_form HRA.out (by omega)
        injection he with he1 he2 he3
        subst he1 he3
        obtain ⟨z0, f0⟩ := int_cell HRA.out i hil
        rw [hi] at h1 z0 HRA HWA
        have e5 : (i : Int) < (vs.length : Int) := by omega
        obtain ⟨u, hu⟩ : ∃ u, us[i] = u := ⟨_, rfl⟩
        rw [hu] at z0 HST
        have HF : Veil (runO vs (l.take (k + 1)) = (us, u)) := ⟨by rw [HN.out, HST.out]⟩
        clear hi hu hob hokk k1 HST HN f0 he2 hgb
        go_wp2_with fail
        exact ⟨⟨k + 1, by omega, by rw [HF.out], by go_num, ⟨by rw [HF.out]; exact HRA.out⟩, HWA⟩, by simp [intOf]; omega⟩
      have m1 : (o.f0 == 1) = false := beq_eq_false_iff_ne.2 k1
      by_cases k2 : o.f0 = 2
      · as_aux_lemma =>
        have m2 : (o.f0 == 2) = true := beq_iff_eq.2 k2
        have hob := ok_obj hokk (.inr k2)
        obtain ⟨i, hi⟩ : ∃ i : Nat, o.f1 = (i : Int) := ⟨o.f1.toNat, by omega⟩
        have hil : i < us.length := by omega
        have HST : Veil (stepO (us, sm) o = (us.set i sm, sm)) := ⟨by unfold stepO; rw [if_neg k1, if_pos k2, hi]; rfl⟩
        obtain ⟨g, cap, he, hgb, _, _⟩ := Kd.R_form HRA.out (by omega)
        injection he with he1 he2 he3
        subst he1 he3
        obtain ⟨z0, f0⟩ := int_cell HRA.out i hil
        rw [← hRL] at HRA
        have HRS := Veil.mk (R_set_int HRA.out (i : Int) sm rfl)
        rw [Int.toNat_natCast] at HRS
        have hWS := HWA.out.setCell (p := ⟨g, i, none⟩) hgb (.int .i64 sm)
        rw [hi] at h1 z0 f0 HRS hWS
        have HWS := Veil.mk hWS
        have e5 : (i : Int) < (vs.length : Int) := by omega
        have HF : Veil (runO vs (l.take (k + 1)) = (us.set i sm, sm)) := ⟨by rw [HN.out, HST.out]⟩
        have HUL := Veil.mk hRL
        clear hi hob hokk k1 k2 HST HN he2 hgb hWS HRA HWA hRL
        go_wp2_with fail
        exact ⟨⟨k + 1, by omega, by rw [HF.out], by go_num, ⟨by rw [HF.out]; have h := HRS.out; rw [HUL.out] at h; exact h⟩, HWS⟩, by simp [intOf]; omega⟩
      have m2 : (o.f0 == 2) = false := beq_eq_false_iff_ne.2 k2
      by_cases k3 : o.f0 = 3
      · as_aux_lemma =>
        have m3 : (o.f0 == 3) = true := beq_iff_eq.2 k3
        have HF : Veil (runO vs (l.take (k + 1)) = (us, o.f2)) := ⟨by rw [HN.out]; unfold stepO sumO; rw [if_neg k1, if_neg k2, if_pos (.inl k3), if_pos k3]⟩
        clear k1 k2 k3 hokk HN
        go_wp2_with fail
        exact ⟨⟨k + 1, by omega, by rw [HF.out], by go_num, ⟨by rw [HF.out]; exact HRA.out⟩, HWA⟩, by simp [intOf]; omega⟩
      have m3 : (o.f0 == 3) = false := beq_eq_false_iff_ne.2 k3
      by_cases k4 : o.f0 = 4
      · as_aux_lemma =>
        have m4 : (o.f0 == 4) = true := beq_iff_eq.2 k4
        have HF : Veil (runO vs (l.take (k + 1)) = (us, wrap64 (sm + o.f2))) := ⟨by rw [HN.out]; unfold stepO sumO; rw [if_neg k1, if_neg k2, if_pos (.inr k4), if_neg k3, if_pos k4]⟩
        clear k1 k2 k3 k4 hokk HN
        go_wp2_with fail
        exact ⟨⟨k + 1, by omega, by rw [HF.out], by go_num, ⟨by rw [HF.out]; exact HRA.out⟩, HWA⟩, by simp [intOf]; omega⟩
      as_aux_lemma =>
        have m4 : (o.f0 == 4) = false := beq_eq_false_iff_ne.2 k4
        have HF : Veil (runO vs (l.take (k + 1)) = (us, sm)) := ⟨by rw [HN.out]; unfold stepO; rw [if_neg k1, if_neg k2, if_neg (by omega)]⟩
        clear k1 k2 k3 k4 hokk HN
        go_wp2_with fail
        exact ⟨⟨k + 1, by omega, by rw [HF.out], by go_num, ⟨by rw [HF.out]; exact HRA.out⟩, HWA⟩, by simp [intOf]; omega⟩
    · have d1 : decide ((k : Int) < (l.length : Int)) = false := decide_eq_false (by omega)
      have hkk : k = l.length := by omega
      have HQ : Veil (kI.R 2 wr w.heap.size (fun _ => True) (.slice B vs.length d) (aloneM l vs)) := ⟨by have := HR.out; rw [hkk, List.take_length] at this; exact this⟩
      clear HR hRL hll hkk
      go_wp2
      go_ret
      exact ⟨_, rfl, HQ.out, HW.out⟩
end Go.Proofs.Ytjmnbbflahacoaa.Lang
