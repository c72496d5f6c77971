/- The document's Runs (layer 18), walked. No condition. -/
import Derived.Test.YtjmnbbflahacoaaGreat
import Derived.Test.YtjmnbbflahacoaaRefA
import Derived.Test.YtjmnbbflahacoaaRefS
namespace Go.Proofs.Ytjmnbbflahacoaa.Lang
open Go.RowKit Go.Proofs.Ytjmnbbflahacoaa.Mem Go.Proofs.Ytjmnbbflahacoaa.Hist Go.Proofs.Ytjmnbbflahacoaa.Model Go.Proofs.Ytjmnbbflahacoaa.PHistTells Go.Proofs.YtjmnbbflahacoaaW.PrintWords
set_option linter.unusedVariables false
set_option linter.unusedSimpArgs false

theorem sts_get (first : List Int) (cs : List Tr) (n i : Nat) (h : i < (stsUpTo first cs n).length) : (stsUpTo first cs n)[i] = foldM first (cs.take i) := by
  have h1 : (stsUpTo first cs n)[i]? = some (foldM first (cs.take i)) := by
    rw [stsUpTo_length] at h
    unfold stsUpTo
    cases i with
    | zero => simp [foldM]
    | succ i =>
      rw [List.getElem?_cons_succ, List.getElem?_map, List.getElem?_range (by omega)]
      rfl
  rw [List.getElem?_eq_getElem h] at h1
  injection h1

set_option maxHeartbeats 16000000 in
set_option maxRecDepth 100000 in
theorem refruns_any (w : World) (A : Option Addr) (c : Nat) (l : List Ev) (Av : Option Addr) (cv : Nat) (first : List Int) (B : Option Addr) (cb : Nat) (all : List (List (List Op))) (hC : kEv.C w A l.length l) (hc : l.length ≤ c) (hl : l.length ≤ 120) (hF : kI.C w Av first.length first) (hcv : first.length ≤ cv) (hfl : first.length ≤ 20) (hlow : ∀ ad, Av = some ad → first ≠ [] → ad.block < w.heap.size)
    (hB : kA.C w B all.length all) (hal : Small all) :
    Calls Try.prog 42 #[.slice Av first.length cv, .slice A l.length c, .slice B all.length cb] w
      fun e W' => e = .returned (.bool (runsM first l all)) ∧ Below w.heap.size w W' := by
  have HC := Veil.mk hC
  have HL := Veil.mk hl
  have HF := Veil.mk hF
  have HFL := Veil.mk hfl
  have HBB := Veil.mk hB
  have HAL := Veil.mk hal
  have HM : Veil (runsM first l all = (rightM l && runsTo first l all (commitsM l).length)) := ⟨rfl⟩
  have HR := Veil.mk (refright_any w A c l hC hc (by omega))
  have HST := Veil.mk (fun (W : World) (h : Below w.heap.size w W) => refstates_any W A c l Av cv first (Kd.C_below hC h) hc (by omega) (Kd.C_below hF h) hcv (by omega) (fun ad h1 h2 => Nat.lt_of_lt_of_le (hlow ad h1 h2) h.size))
  have HCM := Veil.mk (fun (W : World) (h : Below w.heap.size w W) => refcommits_any W A c l (Kd.C_below hC h) (by omega))
  clear hC hl hF hfl hB hal hc hcv hlow
  cases hr : rightM l with
  | false =>
    rw [hr] at HR HM
    clear hr
    go_enter Try.func42, Try.ntmps42
    go_wp2_with (first | (go_at_call 24; go_must (refine HR.out.mono ?_; rintro ed w2 ⟨rfl, hb⟩; have HB2 := Veil.mk hb; clear hb)))
    go_ret
    exact ⟨by rw [HM.out]; rfl, HB2.out⟩
  | true =>
    have HRR := Veil.mk hr
    rw [hr] at HR HM
    clear hr
    go_enter Try.func42, Try.ntmps42
    go_wp2_with (first | (go_at_call 24; go_must (refine HR.out.mono ?_; rintro ed w2 ⟨rfl, hb⟩; have HB2 := Veil.mk hb; clear hb)) | (go_at_call 32; go_must (refine (HST.out _ HB2.out).mono ?_; rintro ed w3 ⟨Bs, ds, rfl, hcs, hks, hb⟩; have HS3 := Veil.mk hks; have HB3 := Veil.mk (below_of HB2.out hb); clear hcs hks hb)) | (go_at_call 28; go_must (refine (HCM.out _ HB3.out).mono ?_; rintro ed w4 ⟨v, rfl, hv, hb⟩; have HV4 := Veil.mk hv; have HS4 := Veil.mk (Kd.C_below HS3.out hb); have HB4 := Veil.mk (below_of HB3.out hb); obtain ⟨Ac, cc, rfl⟩ := Kd.R_slice hv; clear hv hb)))
    have HE : Veil (rcommits l = commitsM l) := ⟨(commits_of_right HRR.out).symm⟩
    have HSM : Veil (stsM first l = stsUpTo first (commitsM l) (commitsM l).length) := ⟨rfl⟩
    have HCL : Veil ((commitsM l).length ≤ 1000) := ⟨commitsM_short (by have := HL.out; omega)⟩
    rw [HE.out] at HV4 ⊢
    rw [HSM.out] at HS4 ⊢
    rw [stsUpTo_length]
    have HOKD : Veil (∀ i t, okRun first l all i t = ((inAll all t && !l.any (relB t)) && (rightO (opsOf all t) first.length && decide (aloneM (opsOf all t) (foldM first ((commitsM l).take i)) = foldM first ((commitsM l).take (i + 1)))))) := ⟨fun _ _ => rfl⟩
    have HNX : Veil (∀ k t, (commitsM l)[k]? = some t → runsTo first l all (k + 1) = (runsTo first l all k && okRun first l all k t)) := ⟨fun k t h => runsTo_next first l all h⟩
    have HBD : Veil (∀ k t, (commitsM l)[k]? = some t → okRun first l all k t = false → runsTo first l all (commitsM l).length = false) := ⟨fun k t h => runsTo_bad first l all h⟩
    obtain ⟨cs, hcs⟩ : ∃ cs, commitsM l = cs := ⟨_, rfl⟩
    rw [hcs] at HV4 HS4 HM HOKD HNX HBD HCL ⊢
    clear hcs HE HSM HST HCM HR HRR
    go_loopw [9] (fun v9 wr => ∃ i : Nat, i ≤ cs.length ∧ v9 = .int .i64 i ∧ Veil (runsTo first l all i = true) ∧ Veil (Below w4.heap.size w4 wr)) (fun v9 _ => cs.length - (intOf v9).toNat)
    case atStart => exact ⟨0, Nat.zero_le _, rfl, ⟨rfl⟩, ⟨Below.refl _ _⟩⟩
    case round =>
      obtain ⟨i, hi, rfl, HRT, HW⟩ := hrel
      have HWW := Veil.mk (below_of HB4.out HW.out)
      have hcl := HCL.out
      by_cases hlt : i < cs.length
      · have d1 : decide ((i : Int) < (cs.length : Int)) = true := decide_eq_true (by omega)
        have d2 : (i : Int) < (cs.length : Int) := by omega
        obtain ⟨g, n2, c2, A8, c8, hve, _, q0, q1, q2, q3, q4, q5, q6, q7, q8⟩ := rt_full (Kd.R_below HV4.out HW.out) i hlt
        injection hve with e1 e2 e3
        subst e1 e2 e3
        have hgt : cs[i]? = some cs[i] := List.getElem?_eq_getElem hlt
        have HRN := Veil.mk (HNX.out i _ hgt)
        have HRB := Veil.mk (HBD.out i _ hgt)
        have HOK := Veil.mk (HOKD.out i cs[i])
        obtain ⟨t, ht⟩ : ∃ t, cs[i] = t := ⟨_, rfl⟩
        rw [ht] at q0 q1 q2 q3 q4 q5 q6 q7 q8 HRN HRB HOK
        clear ht hgt
        have HX1 := Veil.mk (Blk.new wr #[.int .i64 t.f0, .int .i64 t.f1, .int .i64 t.f2, .int .i64 t.f3, .int .i64 t.f4, .int .i64 t.f5, .int .i64 t.f6, .bool t.f7, .slice A8 t.f8.length c8] 43)
        have HB1 := Veil.mk ((Below.refl wr.heap.size wr).alloc (Nat.le_refl _) (.cells #[.int .i64 t.f0, .int .i64 t.f1, .int .i64 t.f2, .int .i64 t.f3, .int .i64 t.f4, .int .i64 t.f5, .int .i64 t.f6, .bool t.f7, .slice A8 t.f8.length c8] 43))
        have HBW1 := Veil.mk (below_of HWW.out HB1.out)
        go_wp2_with fail
        clear q0 q1 q2 q3 q4 q5 q6 q7 q8
        generalize wr.alloc (.cells #[.int .i64 t.f0, .int .i64 t.f1, .int .i64 t.f2, .int .i64 t.f3, .int .i64 t.f4, .int .i64 t.f5, .int .i64 t.f6, .bool t.f7, .slice A8 t.f8.length c8] 43) = w1 at *
        obtain ⟨bt, hbt⟩ : ∃ bt, wr.heap.size = bt := ⟨_, rfl⟩
        rw [hbt] at HX1 ⊢
        clear hbt
        have p0 := HX1.out.cell 0 _ rfl
        have p1 := HX1.out.cell 1 _ rfl
        have p2 := HX1.out.cell 2 _ rfl
        by_cases a0 : t.f0 < 0
        · as_aux_lemma =>
          have d0 : decide (t.f0 < 0) = true := decide_eq_true a0
          have HBAD : Veil (okRun first l all i t = false) := ⟨by rw [HOK.out]; unfold inAll; rw [decide_eq_false (by omega : ¬ 0 ≤ t.f0)]; simp⟩
          clear a0
          go_quiet (fail)
          go_wp2_with fail
          go_ret
          exact ⟨by rw [HM.out, HRB.out HBAD.out]; rfl, HBW1.out.drewN _⟩
        have d0 : decide (t.f0 < 0) = false := decide_eq_false a0
        by_cases a1 : t.f0 < (all.length : Int)
        case neg =>
          as_aux_lemma =>
            have d3 : decide (t.f0 ≥ (all.length : Int)) = true := decide_eq_true (by omega)
            have HBAD : Veil (okRun first l all i t = false) := ⟨by rw [HOK.out]; unfold inAll; rw [decide_eq_false a1]; simp⟩
            clear a0 a1
            go_quiet (fail)
            go_wp2_with fail
            go_ret
            exact ⟨by rw [HM.out, HRB.out HBAD.out]; rfl, HBW1.out.drewN _⟩
        have d3 : decide (t.f0 ≥ (all.length : Int)) = false := decide_eq_false (by omega)
        by_cases a2 : t.f1 < 0
        · as_aux_lemma =>
          have d4 : decide (t.f1 < 0) = true := decide_eq_true a2
          have HBAD : Veil (okRun first l all i t = false) := ⟨by rw [HOK.out]; unfold inAll; rw [decide_eq_false (by omega : ¬ 0 ≤ t.f1)]; simp⟩
          clear a0 a1 a2
          go_quiet (fail)
          go_wp2_with fail
          go_ret
          exact ⟨by rw [HM.out, HRB.out HBAD.out]; rfl, HBW1.out.drewN _⟩
        have d4 : decide (t.f1 < 0) = false := decide_eq_false a2
        obtain ⟨i0, hi0⟩ : ∃ i : Nat, t.f0 = (i : Int) := ⟨t.f0.toNat, by omega⟩
        obtain ⟨i1, hi1⟩ : ∃ i : Nat, t.f1 = (i : Int) := ⟨t.f1.toNat, by omega⟩
        have hl0 : i0 < all.length := by omega
        obtain ⟨ad, A1, c1, rfl, x1, hcc1, HC1⟩ := row_at (Kd.C_below HBB.out HBW1.out) i0 hl0
        have hgd : all.getD t.f0.toNat [] = all[i0] := by rw [hi0]; simp [List.getD, hl0]
        have hm2 := (HAL.out.2 _ (List.getElem_mem hl0)).2
        obtain ⟨av, hav⟩ : ∃ av, all[i0] = av := ⟨_, rfl⟩
        rw [hav] at x1 hgd HC1 hm2
        have HIN : Veil (inAll all t = decide (i1 < av.length)) := ⟨by
          unfold inAll
          rw [hgd, hi1, decide_eq_true (by omega : 0 ≤ t.f0), decide_eq_true a1, decide_eq_true (by omega : (0 : Int) ≤ (i1 : Int))]
          simp⟩
        have HREL : Veil (∀ e, relB t e = (((e.f0 == 4 && e.f1 == (i0 : Int)) && e.f2 == (i1 : Int)) && e.f3 == t.f2)) := ⟨fun e => by unfold relB; rw [hi0, hi1]⟩
        have HOP : Veil (i1 < av.length → opsOf all t = av.getD i1 []) := ⟨fun _ => by unfold opsOf; rw [hgd, hi1]; rfl⟩
        have HCV := Veil.mk (And.intro HC1 hm2)
        rw [hi0] at p0 d0 d3 HX1 ⊢
        rw [hi1] at p1 d4 HX1 ⊢
        have d5 : (i0 : Int) < (all.length : Int) := by omega
        have f1 : decide (all.length ≤ i0) = false := decide_eq_false (by omega)
        clear a0 a1 a2 hi0 hi1 hcc1 hl0 HC1 hgd hav hm2
        by_cases a3 : i1 < av.length
        case neg =>
          as_aux_lemma =>
            have d6 : decide ((i1 : Int) ≥ (av.length : Int)) = true := decide_eq_true (by omega)
            have f3 : decide (av.length ≤ i1) = true := decide_eq_true (by omega)
            have HBAD : Veil (okRun first l all i t = false) := ⟨by rw [HOK.out, HIN.out, decide_eq_false a3]; simp⟩
            clear a3
            go_quiet (fail)
            go_wp2_with fail
            go_ret
            exact ⟨by rw [HM.out, HRB.out HBAD.out]; rfl, HBW1.out.drewN _⟩
        have d6 : decide ((i1 : Int) ≥ (av.length : Int)) = false := decide_eq_false (by omega)
        have f3 : decide (av.length ≤ i1) = false := decide_eq_false (by omega)
        have d7 : (i1 : Int) < (av.length : Int) := by omega
        go_quiet (fail)
        go_wp2_with fail
        have HX2 : Veil (∀ W, Below w1.heap.size w1 W → W.cell? ⟨bt, 0, none⟩ = some (.int .i64 (i0 : Int)) ∧ W.cell? ⟨bt, 1, none⟩ = some (.int .i64 (i1 : Int)) ∧ W.cell? ⟨bt, 2, none⟩ = some (.int .i64 t.f2) ∧ W.cell? (ad.add i0) = some (.slice A1 av.length c1)) := ⟨fun W h => ⟨(h.cell (p := ⟨bt, 0, none⟩) HX1.out.lt).trans p0, (h.cell (p := ⟨bt, 1, none⟩) HX1.out.lt).trans p1, (h.cell (p := ⟨bt, 2, none⟩) HX1.out.lt).trans p2, (h.cell (World.block_lt_of_cell? w1 _ x1)).trans x1⟩⟩
        clear p0 p1 p2 x1 d0 d3 d4 d6 f1 f3
        go_loopw [11] (fun v11 wx => ∃ k : Nat, k ≤ l.length ∧ v11 = .int .i64 k ∧ Veil ((l.take k).any (relB t) = false) ∧ Veil (Below w1.heap.size w1 wx)) (fun v11 _ => l.length - (intOf v11).toNat)
        case atStart => exact ⟨0, Nat.zero_le _, rfl, ⟨by simp⟩, ⟨(Below.refl _ _).drewN _⟩⟩
        case round =>
          obtain ⟨k, hk, rfl, HNO, HY⟩ := hrel
          have hll := HL.out
          obtain ⟨p0, p1, p2, x1⟩ := HX2.out _ HY.out
          have HBY := Veil.mk (below_of HBW1.out HY.out)
          by_cases hkl : k < l.length
          · have e1 : decide ((k : Int) < (l.length : Int)) = true := decide_eq_true (by omega)
            have e2 : (k : Int) < (l.length : Int) := by omega
            obtain ⟨al, rfl, h0, h1, h2, h3, h4, h5, h6⟩ := eve_at (Kd.C_below HC.out HBY.out) k hkl
            have HNK : Veil ((l.take (k + 1)).any (relB t) = relB t l[k]) := ⟨by rw [List.take_succ_eq_append_getElem hkl, List.any_append, HNO.out]; simp⟩
            have HME := Veil.mk (List.getElem_mem hkl)
            obtain ⟨e, he⟩ : ∃ e, l[k] = e := ⟨_, rfl⟩
            rw [he] at h0 h1 h2 h3 h4 h5 h6 HNK HME
            have HRE := Veil.mk (HREL.out e)
            clear he x1 h4 h5 h6
            by_cases b0 : e.f0 = 4
            case neg =>
              as_aux_lemma =>
                have m0 : (e.f0 == 4) = false := beq_eq_false_iff_ne.2 b0
                have HG : Veil ((l.take (k + 1)).any (relB t) = false) := ⟨by rw [HNK.out, HRE.out, m0]; rfl⟩
                clear b0
                go_wp2_with fail
                go_quiet (fail)
                go_wp2_with fail
                exact ⟨⟨k + 1, by omega, by go_num, HG, ⟨HY.out.drewN _⟩⟩, by simp [intOf]; omega⟩
            have m0 : (e.f0 == 4) = true := beq_iff_eq.2 b0
            by_cases b1 : e.f1 = (i0 : Int)
            case neg =>
              as_aux_lemma =>
                have m1 : (e.f1 == (i0 : Int)) = false := beq_eq_false_iff_ne.2 b1
                have HG : Veil ((l.take (k + 1)).any (relB t) = false) := ⟨by rw [HNK.out, HRE.out, m0, m1]; rfl⟩
                clear b0 b1
                go_wp2_with fail
                go_quiet (fail)
                go_wp2_with fail
                exact ⟨⟨k + 1, by omega, by go_num, HG, ⟨HY.out.drewN _⟩⟩, by simp [intOf]; omega⟩
            have m1 : (e.f1 == (i0 : Int)) = true := beq_iff_eq.2 b1
            by_cases b2 : e.f2 = (i1 : Int)
            case neg =>
              as_aux_lemma =>
                have m2 : (e.f2 == (i1 : Int)) = false := beq_eq_false_iff_ne.2 b2
                have HG : Veil ((l.take (k + 1)).any (relB t) = false) := ⟨by rw [HNK.out, HRE.out, m0, m1, m2]; rfl⟩
                clear b0 b1 b2
                go_wp2_with fail
                go_quiet (fail)
                go_wp2_with fail
                exact ⟨⟨k + 1, by omega, by go_num, HG, ⟨HY.out.drewN _⟩⟩, by simp [intOf]; omega⟩
            have m2 : (e.f2 == (i1 : Int)) = true := beq_iff_eq.2 b2
            by_cases b3 : e.f3 = t.f2
            case neg =>
              as_aux_lemma =>
                have m3 : (e.f3 == t.f2) = false := beq_eq_false_iff_ne.2 b3
                have HG : Veil ((l.take (k + 1)).any (relB t) = false) := ⟨by rw [HNK.out, HRE.out, m0, m1, m2, m3]; rfl⟩
                clear b0 b1 b2 b3
                go_wp2_with fail
                go_quiet (fail)
                go_wp2_with fail
                exact ⟨⟨k + 1, by omega, by go_num, HG, ⟨HY.out.drewN _⟩⟩, by simp [intOf]; omega⟩
            as_aux_lemma =>
              have m3 : (e.f3 == t.f2) = true := beq_iff_eq.2 b3
              have HBAD : Veil (okRun first l all i t = false) := ⟨by rw [HOK.out, List.any_eq_true.2 ⟨e, HME.out, by rw [HRE.out, m0, m1, m2, m3]; rfl⟩]; simp⟩
              clear b0 b1 b2 b3
              go_wp2_with fail
              go_quiet (fail)
              go_wp2_with fail
              go_ret
              exact ⟨by rw [HM.out, HRB.out HBAD.out]; rfl, HBY.out.drewN _⟩
          · have e1 : decide ((k : Int) < (l.length : Int)) = false := decide_eq_false (by omega)
            have HREL0 : Veil (l.any (relB t) = false) := ⟨by have h := HNO.out; rwa [List.take_of_length_le (by omega)] at h⟩
            have hgo : opsOf all t = av[i1] := (HOP.out a3).trans (by simp [List.getD, a3])
            obtain ⟨ad1, A3, c3, rfl, x2, hcc2, HC3⟩ := ops_at (Kd.C_below HCV.out.1 HY.out) i1 a3
            have hol : (av[i1]).length ≤ 20 := HCV.out.2 _ (List.getElem_mem a3)
            obtain ⟨ov, hov⟩ : ∃ ov, av[i1] = ov := ⟨_, rfl⟩
            rw [hov] at x2 HC3 hgo hol hcc2
            have hs0 : i < (stsUpTo first cs cs.length).length := by rw [stsUpTo_length]; omega
            have hs1 : i + 1 < (stsUpTo first cs cs.length).length := by rw [stsUpTo_length]; omega
            have hbx := below_of (below_of HW.out HB1.out) HY.out
            have HBX := Veil.mk hbx
            obtain ⟨sa, As, ks, rfl, y0, hyc0, HK0⟩ := sts_at (Kd.C_below HS4.out hbx) i hs0
            obtain ⟨sb, As1, ks1, heq, y1, hyc1, HK1⟩ := sts_at (Kd.C_below HS4.out hbx) (i + 1) hs1
            injection heq with heq
            subst heq
            rw [sts_get] at y0 y1 HK0 HK1
            have hf0 := foldM_length (cs.take i) first
            have hf1 := foldM_length (cs.take (i + 1)) first
            have hlen : (stsUpTo first cs cs.length).length = cs.length + 1 := stsUpTo_length _ _ _
            have HOK2 : Veil (okRun first l all i t = (rightO ov first.length && decide (aloneM ov (foldM first (cs.take i)) = foldM first (cs.take (i + 1))))) := ⟨by rw [HOK.out, HIN.out, hgo, HREL0.out, decide_eq_true a3]; simp⟩
            clear hyc0 hyc1 hs0 hs1 hbx hgo hcc2 hov HOK HIN HOP HCV HREL
            obtain ⟨xs, hxs⟩ : ∃ xs, foldM first (cs.take i) = xs := ⟨_, rfl⟩
            obtain ⟨ys, hys⟩ : ∃ ys, foldM first (cs.take (i + 1)) = ys := ⟨_, rfl⟩
            rw [hxs] at y0 HK0 hf0 HOK2
            rw [hys] at y1 HK1 hf1 HOK2
            clear hxs hys
            have z0 : (i : Int) < ((cs.length + 1 : Nat) : Int) := by omega
            have z1 : (i : Int) + 1 < ((cs.length + 1 : Nat) : Int) := by omega
            have z4 : (i : Int) < (cs.length : Int) + 1 := by omega
            have z5 : (i : Int) + 1 < (cs.length : Int) + 1 := by omega
            have zw : IntKind.i64.wrap ((i : Int) + 1) = (i : Int) + 1 := IntWalk.i64_in _ (by omega)
            have z6 : (0 : Int) ≤ (i : Int) + 1 := by omega
            have zt : ((i : Int) + 1).toNat = i + 1 := by omega
            have z2 : i < cs.length + 1 := by omega
            have z3 : i + 1 < cs.length + 1 := by omega
            have hfl := HFL.out
            have HRI := Veil.mk (fun (W : World) (h : Below wr.heap.size wr W) => refright11_any W A3 c3 ov first.length (Kd.C_below HC3 h) (by omega))
            have HXL := Veil.mk (And.intro hf0 hf1)
            have HKK := Veil.mk (And.intro HK0 HK1)
            have HCO := Veil.mk (And.intro HC3 hol)
            clear HK0 HK1 HC3 hol hf0 hf1 hlen
            have HVA := Veil.mk (And.intro z0 (And.intro z1 (And.intro z2 z3)))
            have HLN : Veil ((aloneM ov xs).length = ys.length) := ⟨by rw [aloneM_length, HXL.out.1, HXL.out.2]⟩
            have HAN := Veil.mk (fun (W : World) (h : Below wr.heap.size wr W) (hr : rightO ov first.length = true) => refalone_any W A3 c3 ov As ks xs (Kd.C_below HCO.out.1 h) (by have := HCO.out.2; omega) (Kd.C_below HKK.out.1 h) (by have := HXL.out.1; omega) (by rw [HXL.out.1]; exact hr))
            have HVL := Veil.mk (fun (W : World) (h : Below wr.heap.size wr W) (Ao : Option Addr) (co : Nat) (ho : kI.C W Ao (aloneM ov xs).length (aloneM ov xs)) => vals_any W Ao As1 co ks1 (aloneM ov xs) ys ho (Kd.C_below HKK.out.2 h) (by have := HXL.out.2; have := HLN.out; omega) (by have := HXL.out.2; omega))
            clear HXL HKK HCO HLN
            go_wp2_with fail
            go_quiet (fail)
            go_wp2_with fail
            have HX0 := Veil.mk ((Below.refl wr.heap.size wr).drewN nq).drew
            replace y1 : wr.cell? { block := sa.block, off := sa.off + (i + 1) } = some (.slice As1 ys.length ks1) := y1
            refine wp_region_X (fun w' => w'.cell? (sa.add i) = some (.slice As xs.length ks) ∧ w'.cell? { block := sa.block, off := sa.off + (i + 1) } = some (.slice As1 ys.length ks1)) [] (by kernel_rfl) ?_
            have hS0 := And.intro y0 y1
            refine wpAnyX_take3 (i := 0) (v := ?_) rfl (by kernel_rfl) (by kernel_rfl) (by kernel_rfl) (by kernel_rfl) (fun _ _ _ h => h) (Or.inl ⟨by rfl, ?_⟩) (by assumption) ?_
            rotate_left 1
            · intro w hSw; (try dsimp only at hSw); go_split_ands; (first | (go_simp; done) | (go_simp; with_reducible rfl))
            try simp only [Act.put, List.getElem_toArray, List.getElem_cons_zero, List.getElem_cons_succ, List.setIfInBounds_toArray, List.set_cons_zero, List.set_cons_succ]
            refine wpAnyX_take3 (i := 1) (v := ?_) rfl (by kernel_rfl) (by kernel_rfl) (by kernel_rfl) (by kernel_rfl) (fun _ _ _ h => h) (Or.inl ⟨by rfl, ?_⟩) (by assumption) ?_
            rotate_left 1
            · intro w hSw; (try dsimp only at hSw); go_split_ands; (first | (go_simp; done) | (go_simp; with_reducible rfl))
            try simp only [Act.put, List.getElem_toArray, List.getElem_cons_zero, List.getElem_cons_succ, List.setIfInBounds_toArray, List.set_cons_zero, List.set_cons_succ]
            refine wpAnyX_take3 (i := 2) (v := ?_) rfl (by kernel_rfl) (by kernel_rfl) (by kernel_rfl) (by kernel_rfl) (fun _ _ _ h => h) (Or.inl ⟨by rfl, ?_⟩) (by assumption) ?_
            rotate_left 1
            · intro w hSw; (try dsimp only at hSw); go_split_ands; (first | (go_simp; done) | (go_simp; with_reducible rfl))
            try simp only [Act.put, List.getElem_toArray, List.getElem_cons_zero, List.getElem_cons_succ, List.setIfInBounds_toArray, List.set_cons_zero, List.set_cons_succ]
            clear hS0
            refine wpAnyX_one (i := 3) (by kernel_rfl) rfl (fun K hK => ?_)
            go_simp
            refine (HRI.out _ HX0.out).mono ?_
            rintro e1 w7 ⟨rfl, hb7⟩
            have HX7 := Veil.mk (below_of HX0.out hb7)
            have eC : ∀ o v, wr.cell? o = some v → w7.cell? o = some v := fun o v hv => (HX7.out.cell (p := o) (World.block_lt_of_cell? wr _ hv)).trans hv
            have hS7 := And.intro (eC _ _ y0) (eC _ _ y1)
            clear hb7 eC
            dsimp only
            refine hK.out _ _ (fun _ => hS7) ?_
            clear hK K
            try simp only [Act.put, List.getElem_toArray, List.getElem_cons_zero, List.getElem_cons_succ, List.setIfInBounds_toArray, List.set_cons_zero, List.set_cons_succ]
            cases hr : rightO ov first.length with
            | false =>
              as_aux_lemma =>
                have HBAD : Veil (okRun first l all i t = false) := ⟨by rw [HOK2.out, hr]; rfl⟩
                clear hr
                refine wpAnyX_take3 (i := 4) (v := ?_) rfl (by kernel_rfl) (by kernel_rfl) (by kernel_rfl) (by kernel_rfl) (fun _ _ _ h => h) (Or.inl ⟨by rfl, ?_⟩) (by assumption) ?_
                rotate_left 1
                · intro w hSw; (try dsimp only at hSw); go_split_ands; (first | (go_simp; done) | (go_simp; with_reducible rfl))
                try simp only [Act.put, List.getElem_toArray, List.getElem_cons_zero, List.getElem_cons_succ, List.setIfInBounds_toArray, List.set_cons_zero, List.set_cons_succ]
                refine wpAnyX_take3 (i := 5) (v := ?_) rfl (by kernel_rfl) (by kernel_rfl) (by kernel_rfl) (by kernel_rfl) (fun _ _ _ h => h) (Or.inl ⟨by rfl, ?_⟩) (by assumption) ?_
                rotate_left 1
                · intro w hSw; (try dsimp only at hSw); go_split_ands; (first | (go_simp; done) | (go_simp; with_reducible rfl))
                try simp only [Act.put, List.getElem_toArray, List.getElem_cons_zero, List.getElem_cons_succ, List.setIfInBounds_toArray, List.set_cons_zero, List.set_cons_succ]
                refine wpAnyX_take3 (i := 6) (v := undef) rfl (by kernel_rfl) (by kernel_rfl) (by kernel_rfl) (by kernel_rfl) (fun _ _ _ h => h) (Or.inr ⟨by rfl, rfl⟩) (by assumption) ?_
                try simp only [Act.put, List.getElem_toArray, List.getElem_cons_zero, List.getElem_cons_succ, List.setIfInBounds_toArray, List.set_cons_zero, List.set_cons_succ]
                refine wpAnyX_take3 (i := 7) (v := undef) rfl (by kernel_rfl) (by kernel_rfl) (by kernel_rfl) (by kernel_rfl) (fun _ _ _ h => h) (Or.inr ⟨by rfl, rfl⟩) (by assumption) ?_
                try simp only [Act.put, List.getElem_toArray, List.getElem_cons_zero, List.getElem_cons_succ, List.setIfInBounds_toArray, List.set_cons_zero, List.set_cons_succ]
                refine wpAnyX_take3 (i := 8) (v := undef) rfl (by kernel_rfl) (by kernel_rfl) (by kernel_rfl) (by kernel_rfl) (fun _ _ _ h => h) (Or.inr ⟨by rfl, rfl⟩) (by assumption) ?_
                try simp only [Act.put, List.getElem_toArray, List.getElem_cons_zero, List.getElem_cons_succ, List.setIfInBounds_toArray, List.set_cons_zero, List.set_cons_succ]
                refine wpAnyX_take3 (i := 9) (v := undef) rfl (by kernel_rfl) (by kernel_rfl) (by kernel_rfl) (by kernel_rfl) (fun _ _ _ h => h) (Or.inr ⟨by rfl, rfl⟩) (by assumption) ?_
                try simp only [Act.put, List.getElem_toArray, List.getElem_cons_zero, List.getElem_cons_succ, List.setIfInBounds_toArray, List.set_cons_zero, List.set_cons_succ]
                refine wpAnyX_take3 (i := 10) (v := undef) rfl (by kernel_rfl) (by kernel_rfl) (by kernel_rfl) (by kernel_rfl) (fun _ _ _ h => h) (Or.inr ⟨by rfl, rfl⟩) (by assumption) ?_
                try simp only [Act.put, List.getElem_toArray, List.getElem_cons_zero, List.getElem_cons_succ, List.setIfInBounds_toArray, List.set_cons_zero, List.set_cons_succ]
                refine wpAnyX_take3 (i := 11) (v := undef) rfl (by kernel_rfl) (by kernel_rfl) (by kernel_rfl) (by kernel_rfl) (fun _ _ _ h => h) (Or.inr ⟨by rfl, rfl⟩) (by assumption) ?_
                try simp only [Act.put, List.getElem_toArray, List.getElem_cons_zero, List.getElem_cons_succ, List.setIfInBounds_toArray, List.set_cons_zero, List.set_cons_succ]
                refine wpAnyX_take3 (i := 12) (v := undef) rfl (by kernel_rfl) (by kernel_rfl) (by kernel_rfl) (by kernel_rfl) (fun _ _ _ h => h) (Or.inr ⟨by rfl, rfl⟩) (by assumption) ?_
                try simp only [Act.put, List.getElem_toArray, List.getElem_cons_zero, List.getElem_cons_succ, List.setIfInBounds_toArray, List.set_cons_zero, List.set_cons_succ]
                refine wpAnyX_take3 (i := 13) (v := undef) rfl (by kernel_rfl) (by kernel_rfl) (by kernel_rfl) (by kernel_rfl) (fun _ _ _ h => h) (Or.inr ⟨by rfl, rfl⟩) (by assumption) ?_
                try simp only [Act.put, List.getElem_toArray, List.getElem_cons_zero, List.getElem_cons_succ, List.setIfInBounds_toArray, List.set_cons_zero, List.set_cons_succ]
                refine wpAnyX_take3 (i := 14) (v := undef) rfl (by kernel_rfl) (by kernel_rfl) (by kernel_rfl) (by kernel_rfl) (fun _ _ _ h => h) (Or.inr ⟨by rfl, rfl⟩) (by assumption) ?_
                try simp only [Act.put, List.getElem_toArray, List.getElem_cons_zero, List.getElem_cons_succ, List.setIfInBounds_toArray, List.set_cons_zero, List.set_cons_succ]
                refine wpAnyX_take3 (i := 15) (v := undef) rfl (by kernel_rfl) (by kernel_rfl) (by kernel_rfl) (by kernel_rfl) (fun _ _ _ h => h) (Or.inr ⟨by rfl, rfl⟩) (by assumption) ?_
                try simp only [Act.put, List.getElem_toArray, List.getElem_cons_zero, List.getElem_cons_succ, List.setIfInBounds_toArray, List.set_cons_zero, List.set_cons_succ]
                refine wpAnyX_take3 (i := 16) (v := undef) rfl (by kernel_rfl) (by kernel_rfl) (by kernel_rfl) (by kernel_rfl) (fun _ _ _ h => h) (Or.inr ⟨by rfl, rfl⟩) (by assumption) ?_
                try simp only [Act.put, List.getElem_toArray, List.getElem_cons_zero, List.getElem_cons_succ, List.setIfInBounds_toArray, List.set_cons_zero, List.set_cons_succ]
                refine wpAnyX_take3 (i := 17) (v := undef) rfl (by kernel_rfl) (by kernel_rfl) (by kernel_rfl) (by kernel_rfl) (fun _ _ _ h => h) (Or.inr ⟨by rfl, rfl⟩) (by assumption) ?_
                try simp only [Act.put, List.getElem_toArray, List.getElem_cons_zero, List.getElem_cons_succ, List.setIfInBounds_toArray, List.set_cons_zero, List.set_cons_succ]
                refine wpAnyX_take3 (i := 18) (v := undef) rfl (by kernel_rfl) (by kernel_rfl) (by kernel_rfl) (by kernel_rfl) (fun _ _ _ h => h) (Or.inr ⟨by rfl, rfl⟩) (by assumption) ?_
                try simp only [Act.put, List.getElem_toArray, List.getElem_cons_zero, List.getElem_cons_succ, List.setIfInBounds_toArray, List.set_cons_zero, List.set_cons_succ]
                refine wpAnyX_take3 (i := 19) (v := ?_) rfl (by kernel_rfl) (by kernel_rfl) (by kernel_rfl) (by kernel_rfl) (fun _ _ _ h => h) (Or.inl ⟨by rfl, ?_⟩) (by assumption) ?_
                rotate_left 1
                · intro w hSw; (try dsimp only at hSw); go_split_ands; (first | (go_simp; done) | (go_simp; with_reducible rfl))
                try simp only [Act.put, List.getElem_toArray, List.getElem_cons_zero, List.getElem_cons_succ, List.setIfInBounds_toArray, List.set_cons_zero, List.set_cons_succ]
                clear hS7
                refine wpAnyX_done (by kernel_rfl) ?_ _
                try simp only [Act.put, List.getElem_toArray, List.getElem_cons_zero, List.getElem_cons_succ, List.setIfInBounds_toArray, List.set_cons_zero, List.set_cons_succ]
                clear y0 y1
                go_wp2
                go_ret
                exact ⟨by rw [HM.out, HRB.out HBAD.out]; rfl, below_of HBY.out HX7.out⟩
            | true =>
              as_aux_lemma =>
                have hA7 := HAN.out w7 HX7.out hr
                have HOK3 : Veil (okRun first l all i t = decide (aloneM ov xs = ys)) := ⟨by rw [HOK2.out, hr]; rfl⟩
                clear hr HAN HRI HOK2
                have HA7 := Veil.mk hA7
                clear hA7
                refine wpAnyX_take3 (i := 4) (v := ?_) rfl (by kernel_rfl) (by kernel_rfl) (by kernel_rfl) (by kernel_rfl) (fun _ _ _ h => h) (Or.inl ⟨by rfl, ?_⟩) (by assumption) ?_
                rotate_left 1
                · intro w hSw; (try dsimp only at hSw); go_split_ands; (first | (go_simp; done) | (go_simp; with_reducible rfl))
                try simp only [Act.put, List.getElem_toArray, List.getElem_cons_zero, List.getElem_cons_succ, List.setIfInBounds_toArray, List.set_cons_zero, List.set_cons_succ]
                refine wpAnyX_take3 (i := 5) (v := ?_) rfl (by kernel_rfl) (by kernel_rfl) (by kernel_rfl) (by kernel_rfl) (fun _ _ _ h => h) (Or.inl ⟨by rfl, ?_⟩) (by assumption) ?_
                rotate_left 1
                · intro w hSw; (try dsimp only at hSw); go_split_ands; (first | (go_simp; done) | (go_simp; with_reducible rfl))
                try simp only [Act.put, List.getElem_toArray, List.getElem_cons_zero, List.getElem_cons_succ, List.setIfInBounds_toArray, List.set_cons_zero, List.set_cons_succ]
                refine wpAnyX_take3 (i := 6) (v := ?_) rfl (by kernel_rfl) (by kernel_rfl) (by kernel_rfl) (by kernel_rfl) (fun _ _ _ h => h) (Or.inl ⟨by rfl, ?_⟩) (by assumption) ?_
                rotate_left 1
                · intro w hSw; (try dsimp only at hSw); go_split_ands; (first | (go_simp; done) | (go_simp; with_reducible rfl))
                try simp only [Act.put, List.getElem_toArray, List.getElem_cons_zero, List.getElem_cons_succ, List.setIfInBounds_toArray, List.set_cons_zero, List.set_cons_succ]
                refine wpAnyX_take3 (i := 7) (v := ?_) rfl (by kernel_rfl) (by kernel_rfl) (by kernel_rfl) (by kernel_rfl) (fun _ _ _ h => h) (Or.inl ⟨by rfl, ?_⟩) (by assumption) ?_
                rotate_left 1
                · intro w hSw; (try dsimp only at hSw); go_split_ands; (first | (go_simp; done) | (go_simp; with_reducible rfl))
                try simp only [Act.put, List.getElem_toArray, List.getElem_cons_zero, List.getElem_cons_succ, List.setIfInBounds_toArray, List.set_cons_zero, List.set_cons_succ]
                refine wpAnyX_take3 (i := 8) (v := ?_) rfl (by kernel_rfl) (by kernel_rfl) (by kernel_rfl) (by kernel_rfl) (fun _ _ _ h => h) (Or.inl ⟨by rfl, ?_⟩) (by assumption) ?_
                rotate_left 1
                · intro w hSw; (try dsimp only at hSw); go_split_ands; (first | (go_simp; done) | (go_simp; with_reducible rfl))
                try simp only [Act.put, List.getElem_toArray, List.getElem_cons_zero, List.getElem_cons_succ, List.setIfInBounds_toArray, List.set_cons_zero, List.set_cons_succ]
                refine wpAnyX_take3 (i := 9) (v := ?_) rfl (by kernel_rfl) (by kernel_rfl) (by kernel_rfl) (by kernel_rfl) (fun _ _ _ h => h) (Or.inl ⟨by rfl, ?_⟩) (by assumption) ?_
                rotate_left 1
                · intro w hSw; (try dsimp only at hSw); go_split_ands; (first | (go_simp; done) | (go_simp; with_reducible rfl))
                try simp only [Act.put, List.getElem_toArray, List.getElem_cons_zero, List.getElem_cons_succ, List.setIfInBounds_toArray, List.set_cons_zero, List.set_cons_succ]
                refine wpAnyX_take3 (i := 10) (v := ?_) rfl (by kernel_rfl) (by kernel_rfl) (by kernel_rfl) (by kernel_rfl) (fun _ _ _ h => h) (Or.inl ⟨by rfl, ?_⟩) (by assumption) ?_
                rotate_left 1
                · intro w hSw; (try dsimp only at hSw); go_split_ands; (first | (go_simp; done) | (go_simp; with_reducible rfl))
                try simp only [Act.put, List.getElem_toArray, List.getElem_cons_zero, List.getElem_cons_succ, List.setIfInBounds_toArray, List.set_cons_zero, List.set_cons_succ]
                refine wpAnyX_take3 (i := 12) (v := ?_) rfl (by kernel_rfl) (by kernel_rfl) (by kernel_rfl) (by kernel_rfl) (fun _ _ _ h => h) (Or.inl ⟨by rfl, ?_⟩) (by assumption) ?_
                rotate_left 1
                · intro w hSw; (try dsimp only at hSw); go_split_ands; (first | (go_simp; done) | (go_simp; with_reducible rfl))
                try simp only [Act.put, List.getElem_toArray, List.getElem_cons_zero, List.getElem_cons_succ, List.setIfInBounds_toArray, List.set_cons_zero, List.set_cons_succ]
                refine wpAnyX_take3 (i := 13) (v := ?_) rfl (by kernel_rfl) (by kernel_rfl) (by kernel_rfl) (by kernel_rfl) (fun _ _ _ h => h) (Or.inl ⟨by rfl, ?_⟩) (by assumption) ?_
                rotate_left 1
                · intro w hSw; (try dsimp only at hSw); go_split_ands; (first | (go_simp; done) | (go_simp; with_reducible rfl))
                try simp only [Act.put, List.getElem_toArray, List.getElem_cons_zero, List.getElem_cons_succ, List.setIfInBounds_toArray, List.set_cons_zero, List.set_cons_succ]
                refine wpAnyX_take3 (i := 14) (v := ?_) rfl (by kernel_rfl) (by kernel_rfl) (by kernel_rfl) (by kernel_rfl) (fun _ _ _ h => h) (Or.inl ⟨by rfl, ?_⟩) (by assumption) ?_
                rotate_left 1
                · intro w hSw; (try dsimp only at hSw); go_split_ands; (first | (go_simp; done) | (go_simp; with_reducible rfl))
                try simp only [Act.put, List.getElem_toArray, List.getElem_cons_zero, List.getElem_cons_succ, List.setIfInBounds_toArray, List.set_cons_zero, List.set_cons_succ]
                refine wpAnyX_take3 (i := 15) (v := ?_) rfl (by kernel_rfl) (by kernel_rfl) (by kernel_rfl) (by kernel_rfl) (fun _ _ _ h => h) (Or.inl ⟨by rfl, ?_⟩) (by assumption) ?_
                rotate_left 1
                · intro w hSw; (try dsimp only at hSw); go_split_ands; (first | (go_simp; done) | (go_simp; with_reducible rfl))
                try simp only [Act.put, List.getElem_toArray, List.getElem_cons_zero, List.getElem_cons_succ, List.setIfInBounds_toArray, List.set_cons_zero, List.set_cons_succ]
                refine wpAnyX_take3 (i := 16) (v := ?_) rfl (by kernel_rfl) (by kernel_rfl) (by kernel_rfl) (by kernel_rfl) (fun _ _ _ h => h) (Or.inl ⟨by rfl, ?_⟩) (by assumption) ?_
                rotate_left 1
                · intro w hSw; (try dsimp only at hSw); go_split_ands; (first | (go_simp; done) | (go_simp; with_reducible rfl))
                try simp only [Act.put, List.getElem_toArray, List.getElem_cons_zero, List.getElem_cons_succ, List.setIfInBounds_toArray, List.set_cons_zero, List.set_cons_succ]
                clear hS7
                refine wpAnyX_one (i := 11) (by kernel_rfl) rfl (fun K hK => ?_)
                go_simp
                refine HA7.out.mono ?_
                rintro e2 w8 ⟨v8, rfl, hv8, hb8⟩
                obtain ⟨Ao, co, rfl, _, hO8⟩ := Kd.R_reads hv8
                have HX8 := Veil.mk (below_of HX7.out hb8)
                have HV8 := Veil.mk (HVL.out w8 HX8.out Ao co hO8)
                have eC : ∀ o v, wr.cell? o = some v → w8.cell? o = some v := fun o v hv => (HX8.out.cell (p := o) (World.block_lt_of_cell? wr _ hv)).trans hv
                have hS8 := And.intro (eC _ _ y0) (eC _ _ y1)
                clear hb8 eC hv8 hO8 HVL
                dsimp only
                refine hK.out _ _ (fun _ => hS8) ?_
                clear hK K
                try simp only [Act.put, List.getElem_toArray, List.getElem_cons_zero, List.getElem_cons_succ, List.setIfInBounds_toArray, List.set_cons_zero, List.set_cons_succ]
                refine wpAnyX_one (i := 17) (by kernel_rfl) rfl (fun K hK => ?_)
                go_simp
                refine HV8.out.mono ?_
                rintro e3 w9 ⟨rfl, hb9⟩
                have HX9 := Veil.mk (below_of HX8.out hb9)
                have eC : ∀ o v, wr.cell? o = some v → w9.cell? o = some v := fun o v hv => (HX9.out.cell (p := o) (World.block_lt_of_cell? wr _ hv)).trans hv
                have hS9 := And.intro (eC _ _ y0) (eC _ _ y1)
                clear hb9 eC hS8
                dsimp only
                refine hK.out _ _ (fun _ => hS9) ?_
                clear hK K
                try simp only [Act.put, List.getElem_toArray, List.getElem_cons_zero, List.getElem_cons_succ, List.setIfInBounds_toArray, List.set_cons_zero, List.set_cons_succ]
                cases hd : decide (aloneM ov xs = ys) with
                | false =>
                  have HBAD : Veil (okRun first l all i t = false) := ⟨by rw [HOK3.out, hd]⟩
                  clear hd HOK3
                  refine wpAnyX_take3 (i := 18) (v := ?_) rfl (by kernel_rfl) (by kernel_rfl) (by kernel_rfl) (by kernel_rfl) (fun _ _ _ h => h) (Or.inl ⟨by rfl, ?_⟩) (by assumption) ?_
                  rotate_left 1
                  · intro w hSw; (try dsimp only at hSw); go_split_ands; (first | (go_simp; done) | (go_simp; with_reducible rfl))
                  try simp only [Act.put, List.getElem_toArray, List.getElem_cons_zero, List.getElem_cons_succ, List.setIfInBounds_toArray, List.set_cons_zero, List.set_cons_succ]
                  refine wpAnyX_take3 (i := 19) (v := ?_) rfl (by kernel_rfl) (by kernel_rfl) (by kernel_rfl) (by kernel_rfl) (fun _ _ _ h => h) (Or.inl ⟨by rfl, ?_⟩) (by assumption) ?_
                  rotate_left 1
                  · intro w hSw; (try dsimp only at hSw); go_split_ands; (first | (go_simp; done) | (go_simp; with_reducible rfl))
                  try simp only [Act.put, List.getElem_toArray, List.getElem_cons_zero, List.getElem_cons_succ, List.setIfInBounds_toArray, List.set_cons_zero, List.set_cons_succ]
                  clear hS9
                  refine wpAnyX_done (by kernel_rfl) ?_ _
                  try simp only [Act.put, List.getElem_toArray, List.getElem_cons_zero, List.getElem_cons_succ, List.setIfInBounds_toArray, List.set_cons_zero, List.set_cons_succ]
                  clear y0 y1
                  go_wp2
                  go_ret
                  exact ⟨by rw [HM.out, HRB.out HBAD.out]; rfl, below_of HBY.out HX9.out⟩
                | true =>
                  have HGO : Veil (runsTo first l all (i + 1) = true) := ⟨by rw [HRN.out, HRT.out, HOK3.out, hd]; rfl⟩
                  clear hd HOK3
                  refine wpAnyX_take3 (i := 18) (v := ?_) rfl (by kernel_rfl) (by kernel_rfl) (by kernel_rfl) (by kernel_rfl) (fun _ _ _ h => h) (Or.inl ⟨by rfl, ?_⟩) (by assumption) ?_
                  rotate_left 1
                  · intro w hSw; (try dsimp only at hSw); go_split_ands; (first | (go_simp; done) | (go_simp; with_reducible rfl))
                  try simp only [Act.put, List.getElem_toArray, List.getElem_cons_zero, List.getElem_cons_succ, List.setIfInBounds_toArray, List.set_cons_zero, List.set_cons_succ]
                  refine wpAnyX_take3 (i := 19) (v := ?_) rfl (by kernel_rfl) (by kernel_rfl) (by kernel_rfl) (by kernel_rfl) (fun _ _ _ h => h) (Or.inl ⟨by rfl, ?_⟩) (by assumption) ?_
                  rotate_left 1
                  · intro w hSw; (try dsimp only at hSw); go_split_ands; (first | (go_simp; done) | (go_simp; with_reducible rfl))
                  try simp only [Act.put, List.getElem_toArray, List.getElem_cons_zero, List.getElem_cons_succ, List.setIfInBounds_toArray, List.set_cons_zero, List.set_cons_succ]
                  clear hS9
                  refine wpAnyX_done (by kernel_rfl) ?_ _
                  try simp only [Act.put, List.getElem_toArray, List.getElem_cons_zero, List.getElem_cons_succ, List.setIfInBounds_toArray, List.set_cons_zero, List.set_cons_succ]
                  clear y0 y1
                  have HWN := Veil.mk (below_of HBX.out HX9.out)
                  go_wp2
                  go_roundw
                  case rel => exact ⟨i + 1, by omega, by go_num, HGO, HWN⟩
                  case measure => first | (simp [intOf]; done) | (simp [intOf]; omega)
      · as_aux_lemma =>
        have d1 : decide ((i : Int) < (cs.length : Int)) = false := decide_eq_false (by omega)
        have HQ : Veil (runsTo first l all cs.length = true) := ⟨by have h := HRT.out; rwa [show i = cs.length by omega] at h⟩
        go_wp2
        go_ret
        exact ⟨by rw [HM.out, HQ.out]; rfl, HWW.out⟩
end Go.Proofs.Ytjmnbbflahacoaa.Lang
