/- The document's commits: the walk. No condition. -/
import Derived.Test.YtjmnbbflahacoaaRefC
import Derived.Test.YtjmnbbflahacoaaHistP
import Derived.Test.YtjmnbbflahacoaaHistM
import Derived.Test.YtjmnbbflahacoaaOpen
namespace Go.Proofs.Ytjmnbbflahacoaa.Hist
open Go.RowKit Go.Proofs.Ytjmnbbflahacoaa.Mem Go.Proofs.Ytjmnbbflahacoaa.PHistTells Go.Proofs.YtjmnbbflahacoaaW.PrintWords
set_option linter.unusedVariables false
set_option linter.unusedSimpArgs false

/-- A row of the document's tries whose blocks are all old, still there: the element at k, its cells, and that it may be put into another row. -/
theorem rt_elem {w wr : World} {base : Nat} {v : Value} {ts : List Tr} (h : kRt.R 43 w base (fun _ => True) v ts) (hb : Below w.heap.size w wr) (k : Nat) (hk : k < ts.length) :
    ∃ g n c row, v = .slice (some ⟨g, 0, none⟩) n c ∧ kRt.M wr base (fun k => k < w.heap.size) ts[k] (trC ts[k] row) ∧ (∃ A8 c8, row = .slice A8 ts[k].f8.length c8) ∧
      wr.cell? ⟨g, k * 9, none⟩ = some (.int .i64 ts[k].f0) ∧ wr.cell? ⟨g, k * 9 + 1, none⟩ = some (.int .i64 ts[k].f1) ∧ wr.cell? ⟨g, k * 9 + 2, none⟩ = some (.int .i64 ts[k].f2) ∧ wr.cell? ⟨g, k * 9 + 3, none⟩ = some (.int .i64 ts[k].f3) ∧
      wr.cell? ⟨g, k * 9 + 4, none⟩ = some (.int .i64 ts[k].f4) ∧ wr.cell? ⟨g, k * 9 + 5, none⟩ = some (.int .i64 ts[k].f5) ∧ wr.cell? ⟨g, k * 9 + 6, none⟩ = some (.int .i64 ts[k].f6) ∧ wr.cell? ⟨g, k * 9 + 7, none⟩ = some (.bool ts[k].f7) ∧ wr.cell? ⟨g, k * 9 + 8, none⟩ = some row := by
  have h1 := Kd.R_below (Kd.R_mono (Kd.R_bound h) (ok' := fun k => k < w.heap.size) (fun k hk => hk.2.2.1)) hb
  obtain ⟨g, cap, hv, _, _, _⟩ := Kd.R_form h1 (by omega)
  subst hv
  obtain ⟨cs, hcl, hM, hcc, hfr⟩ := Kd.R_elem h1 z29 (k : Int) (by omega) (by omega)
  simp only [Int.toNat_natCast, List.getD_eq_getElem?_getD, List.getElem?_eq_getElem hk, Option.getD_some] at hM hcc
  obtain ⟨row, rfl, hrow⟩ := kRt_openM hM
  obtain ⟨A8, c8, hre⟩ := Kd.R_slice hrow
  refine ⟨g, _, _, row, rfl, kRt.M_mono (fun k hk => hk.1) hM, ⟨A8, c8, hre⟩, hcc 0 _ rfl, hcc 1 _ rfl, hcc 2 _ rfl, hcc 3 _ rfl, hcc 4 _ rfl, hcc 5 _ rfl, hcc 6 _ rfl, hcc 7 _ rfl, hcc 8 _ rfl⟩

theorem rcommitsUpTo_length (ts : List Tr) : ∀ i, (rcommitsUpTo ts i).length ≤ i * ts.length
  | 0 => Nat.zero_le _
  | i + 1 => by
    rw [rcommitsUpTo_next, List.length_append, Nat.succ_mul]
    exact Nat.add_le_add (rcommitsUpTo_length ts i) (List.length_filter_le _ _)

/-- Where a row that grows may lie: no block that is older than n. -/
def Young (n : Nat) (v : Value) : Prop := ∀ k, v.ownBlock = some k → n ≤ k
theorem young_grown {n : Nat} {W : World} {v v1 : Value} (h : Young n v) (hn : n ≤ W.heap.size) (hat : v1.ownBlock = v.ownBlock ∨ ∃ b, v1.ownBlock = some b ∧ W.heap.size ≤ b) : Young n v1 := by
  intro k hk
  rcases hat with he | ⟨b, he, hb⟩
  · exact h k (he ▸ hk)
  · rw [he] at hk
    injection hk with hk
    omega

set_option maxHeartbeats 20000000 in
set_option maxRecDepth 100000 in
theorem refcommits_any (w : World) (A : Option Addr) (c : Nat) (l : List Ev) (hC : kEv.C w A l.length l) (hl : l.length ≤ 1000) :
    Calls Try.prog 28 #[.slice A l.length c] w fun e w' => ∃ v, e = .returned v ∧ kRt.R 43 w' w.heap.size (fun _ => True) v (rcommits l) ∧ Below w.heap.size w w' := by
  have HC := Veil.mk hC
  have HL := Veil.mk hl
  have HTL : Veil ((rtries l).length ≤ 1000) := ⟨Nat.le_trans (rtriesUpTo_length l l.length) hl⟩
  have HE : Veil (rcommits l = rcommitsUpTo (rtries l) l.length) := ⟨rfl⟩
  obtain ⟨ts, hts⟩ : ∃ ts, rtries l = ts := ⟨_, rfl⟩
  have HR := Veil.mk (reftries_any w A c l hC hl)
  rw [hts] at HTL HE HR
  clear hC hts
  go_enter Try.func28, Try.ntmps28
  go_wp2_with (first | (go_at_call 26; refine HR.out.mono ?_; rintro ed w2 ⟨v, rfl, hv, hb⟩; have hrd := Kd.R_reads hv; obtain ⟨Av, cv, rfl, hcv, hCv⟩ := hrd; have HV := Veil.mk hv; have HB := Veil.mk hb; clear hv hb hcv hCv))
  go_loopw [3, 5] (fun v3 v5 wr => ∃ i : Nat, i ≤ l.length ∧ v5 = .int .i64 i ∧ Veil (kRt.R 43 wr w.heap.size (fun _ => True) v3 (rcommitsUpTo ts i)) ∧ Veil (Young w2.heap.size v3) ∧ Veil (Below w2.heap.size w2 wr)) (fun _ v5 _ => l.length - (intOf v5).toNat)
  case atStart => exact ⟨0, Nat.zero_le _, rfl, ⟨Kd.R_nil _ _ _ _ _⟩, ⟨fun k hk => by cases hk⟩, ⟨Below.refl _ _⟩⟩
  case round =>
    obtain ⟨i, hi, rfl, HO, HY, HW⟩ := hrel
    by_cases hlt : i < l.length
    · have d1 : decide ((i : Int) < (l.length : Int)) = true := decide_eq_true (by omega)
      have HCL : Veil ((rcommitsUpTo ts i).length ≤ 1000000) := ⟨Nat.le_trans (rcommitsUpTo_length ts i) (Nat.le_trans (Nat.mul_le_mul (show i ≤ 1000 by omega) HTL.out) (by decide))⟩
      go_wp2_with fail
      go_loopw [3, 6] (fun v3 v6 wq => ∃ k : Nat, k ≤ ts.length ∧ v6 = .int .i64 k ∧ Veil (kRt.R 43 wq w.heap.size (fun _ => True) v3 (rcommitsUpTo ts i ++ (ts.take k).filter (fun t => t.f7 && t.f5 == (i : Int)))) ∧ Veil (Young w2.heap.size v3) ∧ Veil (Below w2.heap.size w2 wq)) (fun _ v6 _ => ts.length - (intOf v6).toNat)
      case atStart => exact ⟨0, Nat.zero_le _, rfl, ⟨by simpa using HO.out⟩, HY, HW⟩
      case round =>
        obtain ⟨k, hk, rfl, HO, HY, HW⟩ := hrel
        have htl := HTL.out
        by_cases hkl : k < ts.length
        · have e1 : decide ((k : Int) < (ts.length : Int)) = true := decide_eq_true (by omega)
          have e2 : (k : Int) < (ts.length : Int) := by omega
          obtain ⟨g, nv, cv', row, hve, hM, ⟨A8, c8, rfl⟩, q0, q1, q2, q3, q4, q5, q6, q7, q8⟩ := rt_elem HV.out HW.out k hkl
          injection hve with hve h2 h3
          subst hve h2 h3
          have HM := Veil.mk hM
          have HF := Veil.mk (show (ts.take (k + 1)).filter (fun t => t.f7 && t.f5 == (i : Int)) = (ts.take k).filter (fun t => t.f7 && t.f5 == (i : Int)) ++ (if ts[k].f7 && ts[k].f5 == (i : Int) then [ts[k]] else []) by
            rw [List.take_succ_eq_append_getElem hkl, List.filter_append, List.filter_cons]; split <;> rfl)
          obtain ⟨t, ht⟩ : ∃ t, ts[k] = t := ⟨_, rfl⟩
          rw [ht] at HM HF q0 q1 q2 q3 q4 q5 q6 q7 q8
          clear hM ht
          by_cases h7 : t.f7 = true
          · rw [h7] at q7
            by_cases h5 : t.f5 = (i : Int)
            · have m5 : (t.f5 == (i : Int)) = true := beq_iff_eq.2 h5
              have HF2 : Veil ((ts.take (k + 1)).filter (fun t => t.f7 && t.f5 == (i : Int)) = (ts.take k).filter (fun t => t.f7 && t.f5 == (i : Int)) ++ [t]) := ⟨by rw [HF.out, h7, m5]; rfl⟩
              have HLL : Veil ((rcommitsUpTo ts i ++ (ts.take k).filter (fun t => t.f7 && t.f5 == (i : Int))).length ≤ 1001000) := ⟨by
                rw [List.length_append]
                have h1 := List.length_filter_le (fun t : Tr => t.f7 && t.f5 == (i : Int)) (ts.take k)
                rw [List.length_take] at h1
                have := HCL.out
                omega⟩
              have H7 := Veil.mk h7
              have HMN : Veil (kRt.M wr w.heap.size (fun k => k < w2.heap.size) t [.int .i64 t.f0, .int .i64 t.f1, .int .i64 t.f2, .int .i64 t.f3, .int .i64 t.f4, .int .i64 t.f5, .int .i64 t.f6, .bool true, .slice A8 t.f8.length c8]) := ⟨by have := HM.out; unfold trC at this; rwa [h7] at this⟩
              have HBB := Veil.mk (HB.out.trans (HW.out.mono HB.out.size))
              have HYN : Veil (∀ k, k < w2.heap.size → True ∧ some k ≠ u3.ownBlock) := ⟨fun k hk => ⟨trivial, fun he => by have := HY.out k he.symm; omega⟩⟩
              obtain ⟨out, hout⟩ : ∃ out, rcommitsUpTo ts i ++ (ts.take k).filter (fun t => t.f7 && t.f5 == (i : Int)) = out := ⟨_, rfl⟩
              have HOU := Veil.mk hout
              rw [hout] at HO HLL
              clear hout h5 h7 HF HM
              go_wp2_with (first | ((with_reducible refine gate_builtin (b := .append) (xs := #[.tmp 35, .tmp 40]) rfl ?_); at_builtin; go_must (refine Kd.R_append kRt (w0 := w) w.heap.size rfl (.tmp 35) (.tmp 40) 39 43 (.agg #[.int .i64 0, .int .i64 0, .int .i64 0, .int .i64 0, .int .i64 0, .int .i64 0, .int .i64 0, .bool false, .slice none 0 0]) 88 rfl Try.underlying39 info43 rfl (Nat.succ_pos 8) (Nat.succ_pos 87) u3 out t _ (fun _ => True) (fun k => k < w2.heap.size) ?hs ?hx ?hp ?hq (fun _ _ => trivial) ?ho ?hb ?hz ?hl ?_); go_must (case hs => rfl); go_must (case hx => rfl); go_must (case ho => exact HO.out); go_must (case hb => exact HBB.out); go_must (case hz => exact HBB.out.size); go_must (case hl => have := HLL.out; omega); go_must (case hq => exact HYN.out); go_must (case hp => exact HMN.out); intro v1 w6 hR hB6 hg hat; have HRN := Veil.mk hR; have HYY := Veil.mk (young_grown HY.out HW.out.size hat); have HW6 := Veil.mk (HW.out.grown hg HW.out.size (fun k hk => HY.out k hk)); clear hR hB6 hg hat))
              exact ⟨⟨k + 1, by omega, by go_num, ⟨by rw [HF2.out, ← List.append_assoc, HOU.out]; exact HRN.out⟩, HYY, HW6⟩, by simp [intOf]; omega⟩
            · have m5 : (t.f5 == (i : Int)) = false := beq_eq_false_iff_ne.2 h5
              have HF2 : Veil ((ts.take (k + 1)).filter (fun t => t.f7 && t.f5 == (i : Int)) = (ts.take k).filter (fun t => t.f7 && t.f5 == (i : Int))) := ⟨by rw [HF.out, m5]; simp⟩
              clear h5 HM HF
              go_wp2
              exact ⟨⟨k + 1, by omega, by go_num, ⟨by rw [HF2.out]; exact HO.out⟩, HY, HW⟩, by simp [intOf]; omega⟩
          · have h7' : t.f7 = false := by simpa using h7
            rw [h7'] at q7
            have HF2 : Veil ((ts.take (k + 1)).filter (fun t => t.f7 && t.f5 == (i : Int)) = (ts.take k).filter (fun t => t.f7 && t.f5 == (i : Int))) := ⟨by rw [HF.out, h7']; simp⟩
            clear h7 HM HF
            go_wp2
            exact ⟨⟨k + 1, by omega, by go_num, ⟨by rw [HF2.out]; exact HO.out⟩, HY, HW⟩, by simp [intOf]; omega⟩
        · have e1 : decide ((k : Int) < (ts.length : Int)) = false := decide_eq_false (by omega)
          have HF : Veil (kRt.R 43 wr w.heap.size (fun _ => True) u3 (rcommitsUpTo ts (i + 1))) := ⟨by
            have := HO.out
            rw [show k = ts.length by omega, List.take_length] at this
            rw [rcommitsUpTo_next]
            exact this⟩
          go_wp2
          exact ⟨⟨i + 1, by omega, by go_num, HF, HY, HW⟩, by simp [intOf]; omega⟩
    · have d1 : decide ((i : Int) < (l.length : Int)) = false := decide_eq_false (by omega)
      have HF : Veil (kRt.R 43 wr w.heap.size (fun _ => True) u3 (rcommits l)) := ⟨by rw [HE.out, ← show i = l.length by omega]; exact HO.out⟩
      go_wp2
      go_ret
      exact ⟨_, rfl, HF.out, HB.out.trans (HW.out.mono HB.out.size)⟩
end Go.Proofs.Ytjmnbbflahacoaa.Hist
/- HistTells's walk: true for every trace. No condition. -/
namespace Go.Proofs.Ytjmnbbflahacoaa.Hist
open Go.RowKit Go.ChangeMaps Go.Maps Go.Proofs.Ytjmnbbflahacoaa.Mem Go.Proofs.Ytjmnbbflahacoaa.PHistTells Go.Proofs.YtjmnbbflahacoaaW.PrintWords
set_option linter.unusedVariables false
set_option linter.unusedSimpArgs false

theorem triesM_len (l : List Ev) : (triesM l).length ≤ l.length := by
  unfold triesM
  cases h : readM l with
  | none => simp
  | some ts => exact readM_length h
theorem refright_any (w : World) (A : Option Addr) (c : Nat) (l : List Ev) (hC : kEv.C w A l.length l) (hc : l.length ≤ c) (hl : l.length ≤ 1000000000) :
    Calls Try.prog 24 #[.slice A l.length c] w fun e w' => e = .returned (.bool (rightM l)) ∧ Below w.heap.size w w' := by
  obtain ⟨k, hk⟩ := ref_right l hl
  exact quarrelref17_Right.calls k A c l (rightM l) w hC hc hk
theorem triesM_wrong {l : List Ev} (h : rightM l = false) : triesM l = [] := by
  unfold rightM at h
  unfold triesM
  cases hr : readM l with
  | none => rfl
  | some ts => rw [hr] at h; cases h
theorem ofM_wrong {l : List Ev} (h : rightM l = false) (th tx : Int) : ofM l th tx = [] := by unfold ofM; rw [triesM_wrong h]; rfl
theorem commits_wrong {l : List Ev} {cs : List Tr} (h : rightM l = false) (hc : CommitsOf l cs) : cs = [] := by
  have := hc.perm
  unfold ended at this
  rw [triesM_wrong h] at this
  exact List.perm_nil.1 this
theorem tries_acc {l : List Ev} (h : rightM l = true) (hl : l.length ≤ 1000) : ∀ t ∈ triesM l, t.f8.length ≤ 1000 := by
  rw [← rtries_of_right h]
  intro t ht
  unfold rtries rtriesUpTo at ht
  obtain ⟨b, _, rfl⟩ := List.mem_map.1 ht
  exact Nat.le_trans (rscan_acc _ _ _ _) hl
theorem rcommits_acc {l : List Ev} (h : rightM l = true) (hl : l.length ≤ 1000) : ∀ t ∈ rcommits l, t.f8.length ≤ 1000 := by
  intro t ht
  unfold rcommits rcommitsUpTo at ht
  rw [rtries_of_right h] at ht
  obtain ⟨i, _, hi⟩ := List.mem_flatMap.1 ht
  exact tries_acc h hl t (List.mem_filter.1 hi).1
theorem commits_short {l : List Ev} {cs : List Tr} (hl : l.length ≤ 1000) (hc : CommitsOf l cs) : cs.length ≤ 1000 := by
  rw [hc.perm.length_eq]
  unfold ended
  have h1 := List.length_filter_le (fun t : Tr => t.f7) (triesM l)
  have h2 := triesM_len l
  omega

set_option maxHeartbeats 20000000 in
set_option maxRecDepth 100000 in
theorem histTells_any (w : World) (A : Option Addr) (c : Nat) (l : List Ev) (th tx : Int) (hC : kEv.C w A l.length l) (hc : l.length ≤ c) (hok : ∀ e ∈ l, EvOk e) :
    Calls Try.prog 6 #[.slice A l.length c, .int .i64 th, .int .i64 tx] w fun e w' => e = .returned (.bool true) ∧ Below w.heap.size w w' := by
  have HC := Veil.mk hC
  have HO := Veil.mk hok
  have HCC := Veil.mk hc
  clear hC hok hc
  by_cases h120 : 120 < l.length
  · have h5 : decide ((120 : Int) < (l.length : Int)) = true := decide_eq_true (by omega)
    clear h120
    go_enter Try.func6, Try.ntmps6
    go_wp2_with (first | (go_at_call 19; refine (alive_any _).mono ?_; rintro ed w1 ⟨rfl, hb⟩; have HB := Veil.mk hb; clear hb))
    go_ret
    exact ⟨rfl, HB.out⟩
  · have h5 : decide ((120 : Int) < (l.length : Int)) = false := decide_eq_false (by omega)
    have HL : Veil (l.length ≤ 1000000000) := ⟨by omega⟩
    have HL2 : Veil (l.length ≤ 1000) := ⟨by omega⟩
    clear h120
    cases hr : rightM l with
    | false =>
      have HR := Veil.mk hr
      clear hr
      go_enter Try.func6, Try.ntmps6
      go_wp2_with (first | (go_at_call 19; refine (alive_any _).mono ?_; rintro ed w1 ⟨rfl, hb⟩; have HB := Veil.mk hb; clear hb) | (go_at_call 24; refine (refright_any _ A c l (Kd.C_below HC.out HB.out) HCC.out HL.out).mono ?_; rintro ed w2 ⟨rfl, hb⟩; rw [HR.out]; have HB2 := Veil.mk (below_of HB.out hb); clear hb) | (go_at_call 20; refine (right_any _ A c l (Kd.C_below HC.out HB2.out) HL.out HO.out).mono ?_; rintro ed w3 ⟨rfl, hb⟩; rw [HR.out]; have HB3 := Veil.mk (below_of HB2.out hb); clear hb) | (go_at_call 21; refine (tries_any _ A c l (Kd.C_below HC.out HB3.out) HL.out HO.out).mono ?_; rintro ed w4 ⟨v, rfl, hv, hb⟩; rw [triesM_wrong HR.out] at hv; have HB4 := Veil.mk (below_of HB3.out hb); have hvr := Kd.R_reads hv; obtain ⟨A1, c1, rfl, _, _⟩ := hvr; clear hv hb) | (go_at_call 25; go_must (refine (commits_any _ A c l (Kd.C_below HC.out HB4.out) HL.out HO.out).mono ?_; rintro ed w5 ⟨v, cs, rfl, hv, hcs, hb⟩; rw [commits_wrong HR.out hcs] at hv; have HB5 := Veil.mk (below_of HB4.out hb); have hvr := Kd.R_reads hv; obtain ⟨A2, c2, rfl, _, _⟩ := hvr; clear hv hb hcs)) | (go_at_call 22; refine (of_any _ A c l th tx (Kd.C_below HC.out HB5.out) HL.out HO.out).mono ?_; rintro ed w6 ⟨v, rfl, hv, hb⟩; rw [ofM_wrong HR.out] at hv; have HB6 := Veil.mk (below_of HB5.out hb); have hvr := Kd.R_reads hv; obtain ⟨A3, c3, rfl, _, _⟩ := hvr; clear hv hb))
      go_ret
      exact ⟨rfl, HB6.out⟩
    | true =>
      have HR := Veil.mk hr
      have hrt := rtries_of_right hr
      have HTA := Veil.mk (tries_acc hr HL2.out)
      have HCA := Veil.mk (rcommits_acc hr HL2.out)
      have htl : (triesM l).length ≤ 1000 := Nat.le_trans (triesM_len l) HL2.out
      have HTL := Veil.mk htl
      have HCE : Veil (∀ cs, CommitsOf l cs → cs = rcommits l) := ⟨fun cs h => commits_eq hr h⟩
      have HRT := Veil.mk hrt
      have HOF : Veil (ofM l th tx = (triesM l).filter (fun t => t.f0 == th && t.f1 == tx)) := ⟨rfl⟩
      clear hr hrt htl
      go_enter Try.func6, Try.ntmps6
      go_wp2_with (first | (go_at_call 19; refine (alive_any _).mono ?_; rintro ed w1 ⟨rfl, hb⟩; have HB := Veil.mk hb; clear hb) | (go_at_call 24; refine (refright_any _ A c l (Kd.C_below HC.out HB.out) HCC.out HL.out).mono ?_; rintro ed w2 ⟨rfl, hb⟩; rw [HR.out]; have HB2 := Veil.mk (below_of HB.out hb); clear hb) | (go_at_call 20; refine (right_any _ A c l (Kd.C_below HC.out HB2.out) HL.out HO.out).mono ?_; rintro ed w3 ⟨rfl, hb⟩; rw [HR.out]; have HB3 := Veil.mk (below_of HB2.out hb); clear hb) | (go_at_call 26; refine (reftries_any _ A c l (Kd.C_below HC.out HB3.out) HL2.out).mono ?_; rintro ed w4 ⟨v, rfl, hv, hb⟩; rw [HRT.out] at hv; have HB4 := Veil.mk (below_of HB3.out hb); have HX34 := Veil.mk hb.size; have hvr := Kd.R_reads hv; obtain ⟨Av, cv, rfl, _, hCv⟩ := hvr; have HV := Veil.mk hv; have HVC := Veil.mk hCv; clear hv hb hCv))
      obtain ⟨ts, hts⟩ : ∃ ts, triesM l = ts := ⟨_, rfl⟩
      have HTS := Veil.mk hts
      rw [hts] at HTA HTL HOF HV HVC ⊢
      clear hts HRT
      have htl := HTL.out
      go_loopw [9, 10] (fun v9 v10 wr => ∃ k : Nat, k ≤ ts.length ∧ v10 = .int .i64 k ∧ Veil (kRt.R 43 wr w3.heap.size (fun _ => True) v9 ((ts.take k).filter (fun t => t.f0 == th && t.f1 == tx))) ∧ Veil (Young w4.heap.size v9) ∧ Veil (Below w4.heap.size w4 wr)) (fun _ v10 _ => ts.length - (intOf v10).toNat)
      case atStart => exact ⟨0, Nat.zero_le _, rfl, ⟨Kd.R_nil _ _ _ _ _⟩, ⟨fun k hk => by cases hk⟩, ⟨Below.refl _ _⟩⟩
      case round =>
        obtain ⟨k, hk, rfl, HU, HY, HW⟩ := hrel
        have HWw := Veil.mk (HB4.out.trans (HW.out.mono HB4.out.size))
        by_cases hkl : k < ts.length
        · have e1 : decide ((k : Int) < (ts.length : Int)) = true := decide_eq_true (by omega)
          have e2 : (k : Int) < (ts.length : Int) := by omega
          obtain ⟨g, nv, cv', row, hve, hM, ⟨A8, c8, rfl⟩, q0, q1, q2, q3, q4, q5, q6, q7, q8⟩ := rt_elem HV.out HW.out k hkl
          injection hve with hve h2 h3
          subst hve h2 h3
          have HM := Veil.mk hM
          have HF := Veil.mk (show (ts.take (k + 1)).filter (fun t => t.f0 == th && t.f1 == tx) = (ts.take k).filter (fun t => t.f0 == th && t.f1 == tx) ++ (if ts[k].f0 == th && ts[k].f1 == tx then [ts[k]] else []) by
            rw [List.take_succ_eq_append_getElem hkl, List.filter_append, List.filter_cons]; split <;> rfl)
          obtain ⟨t, ht⟩ : ∃ t, ts[k] = t := ⟨_, rfl⟩
          rw [ht] at HM HF q0 q1 q2 q3 q4 q5 q6 q7 q8
          clear hM ht
          cases m0 : (t.f0 == th) with
          | true =>
            cases m1 : (t.f1 == tx) with
            | true =>
              have HF2 : Veil ((ts.take (k + 1)).filter (fun t => t.f0 == th && t.f1 == tx) = (ts.take k).filter (fun t => t.f0 == th && t.f1 == tx) ++ [t]) := ⟨by rw [HF.out, m0, m1]; rfl⟩
              have HLL : Veil (((ts.take k).filter (fun t => t.f0 == th && t.f1 == tx)).length ≤ 1000) := ⟨by
                have h1 := List.length_filter_le (fun t : Tr => t.f0 == th && t.f1 == tx) (ts.take k)
                rw [List.length_take] at h1
                omega⟩
              have HMN : Veil (kRt.M wr w3.heap.size (fun k => k < w4.heap.size) t [.int .i64 t.f0, .int .i64 t.f1, .int .i64 t.f2, .int .i64 t.f3, .int .i64 t.f4, .int .i64 t.f5, .int .i64 t.f6, .bool t.f7, .slice A8 t.f8.length c8]) := ⟨HM.out⟩
              have HSZ : Veil (w3.heap.size ≤ wr.heap.size) := ⟨Nat.le_trans HX34.out HW.out.size⟩
              have HYN : Veil (∀ k, k < w4.heap.size → True ∧ some k ≠ u9.ownBlock) := ⟨fun k hk => ⟨trivial, fun he => by have := HY.out k he.symm; omega⟩⟩
              obtain ⟨out, hout⟩ : ∃ out, (ts.take k).filter (fun t => t.f0 == th && t.f1 == tx) = out := ⟨_, rfl⟩
              rw [hout] at HU HLL HF2
              clear hout HF HM
              go_wp2_with (first | ((with_reducible refine gate_builtin (b := .append) (xs := #[.tmp 62, .tmp 67]) rfl ?_); at_builtin; go_must (refine Kd.R_append kRt (w0 := wr) w3.heap.size rfl (.tmp 62) (.tmp 67) 39 43 (.agg #[.int .i64 0, .int .i64 0, .int .i64 0, .int .i64 0, .int .i64 0, .int .i64 0, .int .i64 0, .bool false, .slice none 0 0]) 88 rfl Try.underlying39 info43 rfl (Nat.succ_pos 8) (Nat.succ_pos 87) u9 out t _ (fun _ => True) (fun k => k < w4.heap.size) ?hs ?hx ?hp ?hq (fun _ _ => trivial) ?ho ?hb ?hz ?hl ?_); go_must (case hs => rfl); go_must (case hx => rfl); go_must (case ho => exact HU.out); go_must (case hb => exact Below.refl _ _); go_must (case hz => exact HSZ.out); go_must (case hl => have := HLL.out; omega); go_must (case hq => exact HYN.out); go_must (case hp => exact HMN.out); intro v1 w6 hR hB6 hg hat; have HRN := Veil.mk hR; have HYY := Veil.mk (young_grown HY.out HW.out.size hat); have HW6 := Veil.mk (HW.out.grown hg HW.out.size (fun k hk => HY.out k hk)); clear hR hB6 hg hat))
              exact ⟨⟨k + 1, by omega, by go_num, ⟨by rw [HF2.out]; exact HRN.out⟩, HYY, HW6⟩, by simp [intOf]; omega⟩
            | false =>
              have HF2 : Veil ((ts.take (k + 1)).filter (fun t => t.f0 == th && t.f1 == tx) = (ts.take k).filter (fun t => t.f0 == th && t.f1 == tx)) := ⟨by rw [HF.out, m1]; simp⟩
              clear HM HF
              go_wp2
              exact ⟨⟨k + 1, by omega, by go_num, ⟨by rw [HF2.out]; exact HU.out⟩, HY, HW⟩, by simp [intOf]; omega⟩
          | false =>
            have HF2 : Veil ((ts.take (k + 1)).filter (fun t => t.f0 == th && t.f1 == tx) = (ts.take k).filter (fun t => t.f0 == th && t.f1 == tx)) := ⟨by rw [HF.out, m0]; simp⟩
            clear HM HF
            go_wp2
            exact ⟨⟨k + 1, by omega, by go_num, ⟨by rw [HF2.out]; exact HU.out⟩, HY, HW⟩, by simp [intOf]; omega⟩
        · have e1 : decide ((k : Int) < (ts.length : Int)) = false := decide_eq_false (by omega)
          have hU := HU.out
          rw [show k = ts.length by omega, List.take_length, ← HOF.out] at hU
          have HOA : Veil (∀ t ∈ ofM l th tx, t.f8.length ≤ 1000) := ⟨fun t ht => by rw [HOF.out] at ht; exact HTA.out t (List.mem_filter.1 ht).1⟩
          have HOL : Veil ((ofM l th tx).length ≤ 1000) := ⟨by rw [HOF.out]; exact Nat.le_trans (List.length_filter_le _ _) htl⟩
          obtain ⟨Au, cu, rfl, _, hCu⟩ := Kd.R_reads hU
          have HUC := Veil.mk hCu
          clear hU hCu HU
          go_wp2_with (first | (go_at_call 21; go_must (refine (tries_any _ A c l (Kd.C_below HC.out HWw.out) HL.out HO.out).mono ?_; rintro ed w5 ⟨v, rfl, hv, hb⟩; rw [HTS.out] at hv; have HB5 := Veil.mk (below_of HWw.out hb); have HV5 := Veil.mk (Kd.C_below HVC.out (HW.out.trans (hb.mono HW.out.size))); have HUC5 := Veil.mk (Kd.C_below HUC.out hb); have hvr := Kd.R_reads hv; obtain ⟨A1, c1, rfl, _, hT⟩ := hvr; have HT := Veil.mk hT; clear hv hb hT)) | (go_at_call 27; with_reducible refine (alike_any _ A1 Av c1 cv ts HT.out HV5.out HTL.out HTA.out).mono ?_; go_must (rintro ed w6 ⟨rfl, hb⟩; have HB6 := Veil.mk (below_of HB5.out hb); have HUC6 := Veil.mk (Kd.C_below HUC5.out hb); clear hb)) | (go_at_call 25; go_must (refine (commits_any _ A c l (Kd.C_below HC.out HB6.out) HL.out HO.out).mono ?_; rintro ed w7 ⟨v, cs, rfl, hv, hcs, hb⟩; have hcl := commits_short HL2.out hcs; have hce := HCE.out cs hcs; subst hce; have HCL := Veil.mk hcl; have HB7 := Veil.mk (below_of HB6.out hb); have HUC7 := Veil.mk (Kd.C_below HUC6.out hb); have hvr := Kd.R_reads hv; obtain ⟨A2, c2, rfl, _, hT⟩ := hvr; have HT2 := Veil.mk hT; clear hv hb hcs hcl hT)) | (go_at_call 28; go_must (refine (refcommits_any _ A c l (Kd.C_below HC.out HB7.out) HL2.out).mono ?_; rintro ed w8 ⟨v, rfl, hv, hb⟩; have HB8 := Veil.mk (below_of HB7.out hb); have HUC8 := Veil.mk (Kd.C_below HUC7.out hb); have HT28 := Veil.mk (Kd.C_below HT2.out hb); have hvr := Kd.R_reads hv; obtain ⟨A3, c3, rfl, _, hT⟩ := hvr; have HT3 := Veil.mk hT; clear hv hb hT)) | (go_at_call 27; with_reducible refine (alike_any _ A2 A3 c2 c3 (rcommits l) HT28.out HT3.out HCL.out HCA.out).mono ?_; go_must (rintro ed w9 ⟨rfl, hb⟩; have HB9 := Veil.mk (below_of HB8.out hb); have HUC9 := Veil.mk (Kd.C_below HUC8.out hb); clear hb)) | (go_at_call 22; go_must (refine (of_any _ A c l th tx (Kd.C_below HC.out HB9.out) HL.out HO.out).mono ?_; rintro ed w10 ⟨v, rfl, hv, hb⟩; have HB10 := Veil.mk (below_of HB9.out hb); have HUC10 := Veil.mk (Kd.C_below HUC9.out hb); have hvr := Kd.R_reads hv; obtain ⟨A4, c4, rfl, _, hT⟩ := hvr; have HT4 := Veil.mk hT; clear hv hb hT)) | (go_at_call 27; with_reducible refine (alike_any _ A4 Au c4 cu (ofM l th tx) HT4.out HUC10.out HOL.out HOA.out).mono ?_; go_must (rintro ed w11 ⟨rfl, hb⟩; have HB11 := Veil.mk (below_of HB10.out hb); clear hb)))
          go_ret
          exact ⟨rfl, HB11.out⟩
end Go.Proofs.Ytjmnbbflahacoaa.Hist
/- HistTells: the call, for whatever reads as its arguments, returns true. No condition. -/
namespace Go.Proofs.Ytjmnbbflahacoaa.Hist
open Go.ChangeShapes Go.WideShapes Go.ChangeAt Go.RowKit Go.Proofs.Ytjmnbbflahacoaa.Kit Go.Proofs.YtjmnbbflahacoaaW.PrintWords
set_option linter.unusedVariables false

set_option maxRecDepth 100000 in
theorem walk_histTells {H : Type} {enc : TypeId × Value → H} (W : World) (base : Nat) {v0 v1 v2 : Value} {d0 d1 d2 : DataW H} {p0 p1 p2 : List MemPlace}
    (k0 : Value.okWide Try.prog W .any base 22 v0) (h0 : DataW.Trod enc Try.prog W 0 (fun _ => true) true 22 v0 d0 p0)
    (k1 : Value.okWide Try.prog W .any base 3 v1) (h1 : DataW.Trod enc Try.prog W 0 (fun _ => true) true 3 v1 d1 p1)
    (k2 : Value.okWide Try.prog W .any base 3 v2) (h2 : DataW.Trod enc Try.prog W 0 (fun _ => true) true 3 v2 d2 p2) :
    Calls Try.prog 6 #[v0, v1, v2] W fun e W' => e = .returned (.bool true) ∧ Below W.heap.size W W' := by
  obtain ⟨A, c, l, rfl, hl, hC, hok⟩ := open_evs k0 h0
  obtain ⟨a1, rfl, rfl, rfl, w1⟩ := open_int Try.underlying3 k1 h1
  obtain ⟨a2, rfl, rfl, rfl, w2⟩ := open_int Try.underlying3 k2 h2
  exact histTells_any W A c l a1 a2 hC hl hok
end Go.Proofs.Ytjmnbbflahacoaa.Hist
