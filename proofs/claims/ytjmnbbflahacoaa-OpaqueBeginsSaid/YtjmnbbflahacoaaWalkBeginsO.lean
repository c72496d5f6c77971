/- OpaqueBegins's walk: true for all values and every trace. No condition. -/
import Derived.Test.YtjmnbbflahacoaaOpG
namespace Go.Proofs.Ytjmnbbflahacoaa.Opq
open Go.RowKit Go.Proofs.Ytjmnbbflahacoaa.Mem Go.Proofs.Ytjmnbbflahacoaa.Hist Go.Proofs.Ytjmnbbflahacoaa.Model Go.Proofs.Ytjmnbbflahacoaa.PHistTells Go.Proofs.YtjmnbbflahacoaaW.PrintWords
set_option linter.unusedVariables false
set_option linter.unusedSimpArgs false

theorem tr_at2 {w : World} {A : Option Addr} {l : List Tr} (h : kTr.C w A l.length l) (k : Nat) (hk : k < l.length) :
    ∃ ad, A = some ad ∧ w.cell? ⟨(ad.add (k * 9)).block, (ad.add (k * 9)).off + 5, none⟩ = some (.int .i64 l[k].f5) := by
  obtain ⟨ad, A8, c8, rfl, h0, h1, h2, h3, h4, h5, h6, h7, h8, _⟩ := at_T29 h (k : Int) (by omega) (by omega)
  have hx : rd_T29 l (k : Int) = l[k] := by unfold rd_T29; simp [List.getD, hk]
  simp only [Int.toNat_natCast, hx] at h5
  exact ⟨ad, rfl, h5⟩
/-- What stands in the loop of OpaqueBegins. -/
structure BegAt (w W : World) (ps qs : List Int) (ts : List Tr) (P Q T : Option Addr) : Prop where
  p : kI.C W P ps.length ps
  q : kI.C W Q qs.length qs
  t : kTr.C W T ts.length ts
  below : Below w.heap.size w W

set_option maxHeartbeats 16000000 in
set_option maxRecDepth 100000 in
theorem opaqueBegins_any (w : World) (Av : Option Addr) (cv : Nat) (first : List Int) (A : Option Addr) (c : Nat) (l : List Ev) (k : Int) (hF : kI.C w Av first.length first) (hC : kEv.C w A l.length l) (hc : l.length ≤ c) (hok : ∀ e ∈ l, EvOkO e) (hk0 : 0 ≤ k) (hk1 : k ≤ 255) :
    Calls Try.prog 18 #[.slice Av first.length cv, .slice A l.length c, .int .u8 k] w fun e w' => e = .returned (.bool true) ∧ Below w.heap.size w w' := by
  have HF := Veil.mk hF
  have HC := Veil.mk hC
  have HO := Veil.mk hok
  have HCC := Veil.mk hc
  clear hF hC hok
  by_cases h120 : 120 < l.length
  · have g0 : decide ((120 : Int) < (l.length : Int)) = true := decide_eq_true (by omega)
    clear h120 hc
    go_enter Try.func18, Try.ntmps18
    go_wp2_with (first | (go_at_call 43; refine (alive19_any _).mono ?_; rintro ed w1 ⟨rfl, hb⟩; have HB := Veil.mk hb; clear hb))
    go_ret
    exact ⟨rfl, HB.out⟩
  have g0 : decide ((120 : Int) < (l.length : Int)) = false := decide_eq_false (by omega)
  by_cases h20 : 20 < first.length
  · have g1 : decide ((20 : Int) < (first.length : Int)) = true := decide_eq_true (by omega)
    clear h120 h20 hc
    go_enter Try.func18, Try.ntmps18
    go_wp2_with (first | (go_at_call 43; refine (alive19_any _).mono ?_; rintro ed w1 ⟨rfl, hb⟩; have HB := Veil.mk hb; clear hb))
    go_ret
    exact ⟨rfl, HB.out⟩
  have g1 : decide ((20 : Int) < (first.length : Int)) = false := decide_eq_false (by omega)
  have HL : Veil (l.length ≤ 120 ∧ first.length ≤ 20) := ⟨by omega⟩
  have hl1 : l.length ≤ 120 := by omega
  clear h120 h20
  have HSN := Veil.mk (fun (W : World) (h : Below w.heap.size w W) => oseen_any W A c l Av cv first (Kd.C_below HC.out h) HCC.out HL.out.1 HO.out (Kd.C_below HF.out h) HL.out.2)
  by_cases he : errM first l = 0
  · have HE := Veil.mk he
    obtain ⟨j, hj⟩ : ∃ j : Nat, k.tmod ((l.length : Int) + 1) = (j : Int) := ⟨(k.tmod ((l.length : Int) + 1)).toNat, by rw [Int.toNat_of_nonneg (Int.tmod_nonneg _ hk0)]⟩
    have hjl : j ≤ l.length := by
      have := Int.tmod_lt_of_pos k (show (0 : Int) < (l.length : Int) + 1 by omega)
      omega
    have hcut := cut_to (P := Try.prog) 22 31 .i64 Try.underlying22 (info_parts info31).choose_spec.1 A l.length c (j : Int) (by omega) (by omega) hc
    rw [Int.toNat_natCast] at hcut
    have hr := (bad_of_ok he).1
    have HBO0 := Veil.mk (fun h => bad_open (first := first) hjl he h)
    have HST := Veil.mk (ended_stay j hr)
    have HSB := Veil.mk (fun (t : Tr) (ht : t ∈ triesM (l.take j)) (h5 : 0 ≤ t.f5) => seen_begin (first := first) hjl hr ht h5)
    have HLT := Veil.mk (begins_right j hr).2.len
    have HSR : Veil (seenRes first l = (triesM l).map (seenI (stsM first l) l)) := ⟨by unfold seenRes; rw [if_pos he]; exact (seenOut_ok he).1⟩
    obtain ⟨b, hbl⟩ : ∃ b, l.take j = b := ⟨_, rfl⟩
    have hblen : b.length = j := by rw [← hbl, List.length_take]; omega
    have HBC : Veil (∀ w', Below w.heap.size w w' → kEv.C w' A j b) := ⟨fun w' hw => by
      have := Kd.C_take (m := j) (Kd.C_below HC.out hw) (by omega)
      rw [hbl, hblen] at this
      exact this⟩
    rw [hbl] at HBO0 HST HSB HLT
    have HBO : Veil (∀ e ∈ b, EvOkO e) := ⟨fun e he => HO.out e (by rw [← hbl] at he; exact List.mem_of_mem_take he)⟩
    subst hblen
    have hw1 : IntKind.i64.wrap ((l.length : Int) + 1) = (l.length : Int) + 1 := IntWalk.i64_in _ (by omega)
    have hjb : (b.length : Int) ≤ 120 := by omega
    have HBL : Veil (b.length ≤ 120) := ⟨by omega⟩
    have HTB : Veil ((triesM b).length ≤ 120) := ⟨by
      have h1 : (triesM b).length ≤ b.length := by
        unfold triesM
        cases h : readM b with
        | none => simp
        | some ts => exact readM_length h
      omega⟩
    have HCK := Veil.mk (fun (W : World) (h : Below w.heap.size w W) => check_any W A c b Av cv first (HBC.out W h) (by omega) HBL.out HBO.out (Kd.C_below HF.out h) HL.out.2)
    have HTR := Veil.mk (fun (W : World) (h : Below w.heap.size w W) => tries_any W A c b (HBC.out W h) (by have := HBL.out; omega) (fun e he => (HBO.out e he).1))
    have HSN2 := Veil.mk (fun (W : World) (h : Below w.heap.size w W) => oseen_any W A c b Av cv first (HBC.out W h) (by omega) HBL.out HBO.out (Kd.C_below HF.out h) HL.out.2)
    have HLEN1 : Veil ((seenRes first l).length = (triesM l).length) := ⟨by rw [HSR.out, List.length_map]⟩
    rw [he] at HSN
    rw [HSR.out] at HSN HLEN1
    by_cases hb0 : errM first b = 0
    · have HSR2 : Veil (seenRes first b = (triesM b).map (seenI (stsM first b) b)) := ⟨by unfold seenRes; rw [if_pos hb0]; exact (seenOut_ok hb0).1⟩
      have hck : checkRes first b = -1 := by unfold checkRes; rw [if_pos hb0]
      rw [hck, hb0] at HCK
      rw [hb0, HSR2.out] at HSN2
      have HLEN2 : Veil (((triesM b).map (seenI (stsM first b) b)).length = (triesM b).length) := ⟨List.length_map _⟩
      have HEQ : Veil (∀ i, (hi : i < (triesM b).length) → 0 ≤ (triesM b)[i].f5 → (h2 : i < (triesM l).length) → seenI (stsM first b) b (triesM b)[i] = seenI (stsM first l) l (triesM l)[i]) := ⟨fun i hi h5 h2 => by
        have hst := HST.out _ _ (List.getElem?_eq_getElem hi) h5
        rw [List.getElem?_eq_getElem h2] at hst
        injection hst with hst
        rw [hst]
        exact HSB.out _ (List.getElem_mem hi) h5⟩
      have hlt2 := HLT.out
      have htb := HTB.out
      clear he hr hc hbl hjl hb0 hck
      go_enter Try.func18, Try.ntmps18
      have d0 : (((triesM b).length : Int) != ((triesM b).length : Int)) = false := by simp
      have d1 : decide (((triesM l).length : Int) < ((triesM b).length : Int)) = false := decide_eq_false (by omega)
      have d1' : decide ((triesM l).length < (triesM b).length) = false := decide_eq_false (by omega)
      go_wp2_with (first | (go_at_call 43; refine (alive19_any _).mono ?_; rintro ed w1 ⟨rfl, hb⟩; have HB := Veil.mk hb; clear hb) | (go_at_call 44; with_reducible refine (HSN.out _ HB.out).mono ?_; go_must (rintro ed w2 ⟨v, rfl, hv, hb⟩; have hrd := Kd.R_reads hv; rw [HLEN1.out] at hrd; obtain ⟨P, cp, rfl, _, hP⟩ := hrd; have HP := Veil.mk hP; have HB2 := Veil.mk (below_of HB.out hb); clear hv hb hP)) | (go_at_call 47; go_must (refine (HCK.out _ HB2.out).mono ?_; rintro ed w3 ⟨rfl, hb⟩; have HB3 := Veil.mk (below_of HB2.out hb); have HP3 := Veil.mk (Kd.C_below HP.out hb); clear hb)) | (go_at_call 21; go_must (refine (HTR.out _ HB3.out).mono ?_; rintro ed w4 ⟨v, rfl, hv, hb⟩; obtain ⟨T, ct, rfl, _, hT⟩ := Kd.R_reads hv; have HT := Veil.mk hT; have HB4 := Veil.mk (below_of HB3.out hb); have HP4 := Veil.mk (Kd.C_below HP3.out hb); clear hv hb hT)) | (go_at_call 44; with_reducible refine (HSN2.out _ HB4.out).mono ?_; go_must (rintro ed w5 ⟨v, rfl, hv, hb⟩; have hrd := Kd.R_reads hv; rw [HLEN2.out] at hrd; obtain ⟨Q, cq, rfl, _, hQ⟩ := hrd; have HQ := Veil.mk hQ; have HB5 := Veil.mk (below_of HB4.out hb); have HP5 := Veil.mk (Kd.C_below HP4.out hb); have HT5 := Veil.mk (Kd.C_below HT.out hb); clear hv hb hQ)))
      clear d0 d1 d1'
      go_loopw [15] (fun v15 wr => ∃ i : Nat, i ≤ (triesM b).length ∧ v15 = .int .i64 i ∧ Veil (Below w5.heap.size w5 wr)) (fun v15 _ => (triesM b).length - (intOf v15).toNat)
      case atStart => exact ⟨0, Nat.zero_le _, rfl, ⟨Below.refl _ _⟩⟩
      case round =>
        obtain ⟨i, hi, rfl, HW⟩ := hrel
        by_cases hil : i < (triesM b).length
        · as_aux_lemma =>
          have d1 : decide ((i : Int) < ((triesM b).length : Int)) = true := decide_eq_true (by omega)
          have d2 : (i : Int) < ((triesM b).length : Int) := by omega
          have d3 : (i : Int) < ((triesM l).length : Int) := by omega
          have hi2 : i < (triesM l).length := by omega
          obtain ⟨ad, rfl, q5⟩ := tr_at2 (Kd.C_below HT5.out HW.out) i hil
          have hP : kI.C wr P ((triesM l).map (seenI (stsM first l) l)).length ((triesM l).map (seenI (stsM first l) l)) := by rw [List.length_map]; exact Kd.C_below HP5.out HW.out
          obtain ⟨ap, rfl, x0⟩ := int_at hP i (by rw [List.length_map]; omega)
          rw [List.getElem_map] at x0
          have hQ : kI.C wr Q ((triesM b).map (seenI (stsM first b) b)).length ((triesM b).map (seenI (stsM first b) b)) := by rw [List.length_map]; exact Kd.C_below HQ.out HW.out
          obtain ⟨aq, rfl, y0⟩ := int_at hQ i (by rw [List.length_map]; omega)
          rw [List.getElem_map] at y0
          have HE2 := Veil.mk (HEQ.out i hil)
          obtain ⟨t, ht⟩ : ∃ t, (triesM b)[i] = t := ⟨_, rfl⟩
          obtain ⟨u, hu⟩ : ∃ u, (triesM l)[i] = u := ⟨_, rfl⟩
          have HE3 : Veil (0 ≤ t.f5 → seenI (stsM first b) b t = seenI (stsM first l) l u) := ⟨fun h => by
            have := HE2.out (by rw [ht]; exact h) hi2
            rwa [ht, hu] at this⟩
          rw [ht] at q5 y0
          rw [hu] at x0
          clear ht hu HE2 hP hQ
          obtain ⟨x, hx⟩ : ∃ x, seenI (stsM first b) b t = x := ⟨_, rfl⟩
          obtain ⟨y, hy⟩ : ∃ y, seenI (stsM first l) l u = y := ⟨_, rfl⟩
          rw [hx] at y0 HE3
          rw [hy] at x0 HE3
          clear hx hy
          by_cases h5 : 0 ≤ t.f5
          · have m5 : decide (0 ≤ t.f5) = true := decide_eq_true h5
            have hxy := HE3.out h5
            subst hxy
            have m6 : (x != x) = false := by simp
            clear h5
            go_wp2_with fail
            go_quiet (fail)
            go_wp2
            exact ⟨⟨i + 1, by omega, by go_num, ⟨HW.out.drewN _⟩⟩, by simp [intOf]; omega⟩
          · have m5 : decide (0 ≤ t.f5) = false := decide_eq_false h5
            clear h5
            go_wp2_with fail
            go_quiet (fail)
            go_wp2
            exact ⟨⟨i + 1, by omega, by go_num, ⟨HW.out.drewN _⟩⟩, by simp [intOf]; omega⟩
        · as_aux_lemma =>
          have d1 : decide ((i : Int) < ((triesM b).length : Int)) = false := decide_eq_false (by omega)
          go_wp2
          go_ret
          exact ⟨rfl, below_of HB5.out HW.out⟩
    · as_aux_lemma =>
      obtain ⟨h7, hlt, h5, hsl⟩ := HBO0.out hb0
      have hck : checkRes first b = (badM first b : Int) := by unfold checkRes; rw [if_neg hb0, hsl]
      rw [hck, h7] at HCK
      obtain ⟨n, hlt, hn, h5⟩ : ∃ (n : Nat) (hlt : n < (triesM b).length), badM first b = n ∧ (triesM b)[n].f5 < 0 := ⟨_, hlt, rfl, h5⟩
      rw [hn] at HCK
      have htb := HTB.out
      have d1 : decide ((n : Int) < ((triesM b).length : Int)) = true := decide_eq_true (by omega)
      have d1' : decide (n < (triesM b).length) = true := decide_eq_true hlt
      have d2 : (n : Int) < ((triesM b).length : Int) := by omega
      have d3 : decide (0 ≤ (n : Int)) = true := decide_eq_true (by omega)
      have d4 : decide ((triesM b)[n].f5 < 0) = true := decide_eq_true h5
      clear he hr hc hbl hjl hb0 hck h7 h5 hsl hn
      obtain ⟨tn, htn⟩ : ∃ t, (triesM b)[n] = t := ⟨_, rfl⟩
      rw [htn] at d4
      have HTN := Veil.mk htn
      clear htn
      go_enter Try.func18, Try.ntmps18
      go_wp2_with (first | (go_at_call 43; refine (alive19_any _).mono ?_; rintro ed w1 ⟨rfl, hb⟩; have HB := Veil.mk hb; clear hb) | (go_at_call 44; with_reducible refine (HSN.out _ HB.out).mono ?_; go_must (rintro ed w2 ⟨v, rfl, hv, hb⟩; have HB2 := Veil.mk (below_of HB.out hb); clear hv hb)) | (go_at_call 47; go_must (refine (HCK.out _ HB2.out).mono ?_; rintro ed w3 ⟨rfl, hb⟩; have HB3 := Veil.mk (below_of HB2.out hb); clear hb)) | (go_at_call 21; go_must (refine (HTR.out _ HB3.out).mono ?_; rintro ed w4 ⟨v, rfl, hv, hb⟩; obtain ⟨T, ct, rfl, _, hT⟩ := Kd.R_reads hv; obtain ⟨ad, rfl, q5⟩ := tr_at2 hT n hlt; rw [HTN.out] at q5; have HB4 := Veil.mk (below_of HB3.out hb); clear hv hb hT)))
      go_ret
      exact ⟨rfl, HB4.out⟩
  · have m0 : (errM first l != 0) = true := by simp [he]
    clear he hc
    go_enter Try.func18, Try.ntmps18
    go_wp2_with (first | (go_at_call 43; refine (alive19_any _).mono ?_; rintro ed w1 ⟨rfl, hb⟩; have HB := Veil.mk hb; clear hb) | (go_at_call 44; go_must (refine (HSN.out _ HB.out).mono ?_; rintro ed w2 ⟨v, rfl, hv, hb⟩; have HB2 := Veil.mk (below_of HB.out hb); clear hv hb)))
    go_ret
    exact ⟨rfl, HB2.out⟩
end Go.Proofs.Ytjmnbbflahacoaa.Opq
