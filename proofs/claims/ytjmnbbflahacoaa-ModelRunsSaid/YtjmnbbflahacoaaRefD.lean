/- The document's commits: the walk. No condition. -/
import Derived.Test.YtjmnbbflahacoaaRefC
import Derived.Test.YtjmnbbflahacoaaRefR
import Derived.Test.YtjmnbbflahacoaaHistZ
import Derived.Test.YtjmnbbflahacoaaHistY
import Derived.Test.YtjmnbbflahacoaaOpens
namespace Go.Proofs.Ytjmnbbflahacoaa.Hist
open Go.RowKit Go.Proofs.Ytjmnbbflahacoaa.Mem Go.Proofs.Ytjmnbbflahacoaa.PHistTells Go.Proofs.YtjmnbbflahacoaaW.PrintWords
set_option linter.unusedVariables false
set_option linter.unusedSimpArgs false

/-- A row of the document's tries whose blocks are all old, still there: the element at k, its cells, and that it may be put into another row. -/
theorem rt_elem {w wr : World} {base : Nat} {v : Value} {ts : List Tr} (h : kRt.R 43 w base (fun _ => True) v ts) (hb : Below w.heap.size w wr) (k : Nat) (hk : k < ts.length) :
    ∃ g n c row, v = .slice (some ⟨g, 0, none⟩) n c ∧ kRt.M wr base (fun k => k < w.heap.size) ts[k] (trC ts[k] row) ∧ (∃ A8 c8, row = .slice A8 ts[k].f8.length c8) ∧
      wr.cell? ⟨g, k * 9, none⟩ = some (.int .i64 ts[k].f0) ∧ wr.cell? ⟨g, k * 9 + 1, none⟩ = some (.int .i64 ts[k].f1) ∧ wr.cell? ⟨g, k * 9 + 2, none⟩ = some (.int .i64 ts[k].f2) ∧ wr.cell? ⟨g, k * 9 + 3, none⟩ = some (.int .i64 ts[k].f3) ∧
      wr.cell? ⟨g, k * 9 + 4, none⟩ = some (.int .i64 ts[k].f4) ∧ wr.cell? ⟨g, k * 9 + 5, none⟩ = some (.int .i64 ts[k].f5) ∧ wr.cell? ⟨g, k * 9 + 6, none⟩ = some (.int .i64 ts[k].f6) ∧ wr.cell? ⟨g, k * 9 + 7, none⟩ = some (.bool ts[k].f7) ∧ wr.cell? ⟨g, k * 9 + 8, none⟩ = some row := by
  have h1 := Kd.R_below (Kd.R_mono (Kd.R_bound h) (ok' := fun k => k < w.heap.size) (fun k hk => hk.2.2.1)) hb
  obtain ⟨g, cap, hv, _, _, _⟩ := Kd.R_form h1 (by omega)
  subst hv
  obtain ⟨cs, hcl, hM, hcc, hfr⟩ := Kd.R_elem h1 z29 (k : Int) (by omega) (by omega)
  simp only [Int.toNat_natCast, List.getD_eq_getElem?_getD, List.getElem?_eq_getElem hk, Option.getD_some] at hM hcc
  obtain ⟨row, rfl, hrow⟩ := kRt_openM hM
  obtain ⟨A8, c8, hre⟩ := Kd.R_slice hrow
  refine ⟨g, _, _, row, rfl, kRt.M_mono (fun k hk => hk.1) hM, ⟨A8, c8, hre⟩, hcc 0 _ rfl, hcc 1 _ rfl, hcc 2 _ rfl, hcc 3 _ rfl, hcc 4 _ rfl, hcc 5 _ rfl, hcc 6 _ rfl, hcc 7 _ rfl, hcc 8 _ rfl⟩

theorem rcommitsUpTo_length (ts : List Tr) : ∀ i, (rcommitsUpTo ts i).length ≤ i * ts.length
  | 0 => Nat.zero_le _
  | i + 1 => by
    rw [rcommitsUpTo_next, List.length_append, Nat.succ_mul]
    exact Nat.add_le_add (rcommitsUpTo_length ts i) (List.length_filter_le _ _)

/-- Where a row that grows may lie: no block that is older than n. -/
def Young (n : Nat) (v : Value) : Prop := ∀ k, v.ownBlock = some k → n ≤ k
theorem young_grown {n : Nat} {W : World} {v v1 : Value} (h : Young n v) (hn : n ≤ W.heap.size) (hat : v1.ownBlock = v.ownBlock ∨ ∃ b, v1.ownBlock = some b ∧ W.heap.size ≤ b) : Young n v1 := by
  intro k hk
  rcases hat with he | ⟨b, he, hb⟩
  · exact h k (he ▸ hk)
  · rw [he] at hk
    injection hk with hk
    omega

set_option maxHeartbeats 20000000 in
set_option maxRecDepth 100000 in
theorem refcommits_any (w : World) (A : Option Addr) (c : Nat) (l : List Ev) (hC : kEv.C w A l.length l) (hl : l.length ≤ 1000) :
    Calls Try.prog 28 #[.slice A l.length c] w fun e w' => ∃ v, e = .returned v ∧ kRt.R 43 w' w.heap.size (fun _ => True) v (rcommits l) ∧ Below w.heap.size w w' := by
  have HC := Veil.mk hC
  have HL := Veil.mk hl
  have HTL : Veil ((rtries l).length ≤ 1000) := ⟨Nat.le_trans (rtriesUpTo_length l l.length) hl⟩
  have HE : Veil (rcommits l = rcommitsUpTo (rtries l) l.length) := ⟨rfl⟩
  obtain ⟨ts, hts⟩ : ∃ ts, rtries l = ts := ⟨_, rfl⟩
  have HR := Veil.mk (reftries_any w A c l hC hl)
  rw [hts] at HTL HE HR
  clear hC hts
  go_enter Try.func28, Try.ntmps28
  go_wp2_with (first | (go_at_call 26; refine HR.out.mono ?_; rintro ed w2 ⟨v, rfl, hv, hb⟩; have hrd := Kd.R_reads hv; obtain ⟨Av, cv, rfl, hcv, hCv⟩ := hrd; have HV := Veil.mk hv; have HB := Veil.mk hb; clear hv hb hcv hCv))
  go_loopw [3, 5] (fun v3 v5 wr => ∃ i : Nat, i ≤ l.length ∧ v5 = .int .i64 i ∧ Veil (kRt.R 43 wr w.heap.size (fun _ => True) v3 (rcommitsUpTo ts i)) ∧ Veil (Young w2.heap.size v3) ∧ Veil (Below w2.heap.size w2 wr)) (fun _ v5 _ => l.length - (intOf v5).toNat)
  case atStart => exact ⟨0, Nat.zero_le _, rfl, ⟨Kd.R_nil _ _ _ _ _⟩, ⟨fun k hk => by cases hk⟩, ⟨Below.refl _ _⟩⟩
  case round =>
    obtain ⟨i, hi, rfl, HO, HY, HW⟩ := hrel
    by_cases hlt : i < l.length
    · have d1 : decide ((i : Int) < (l.length : Int)) = true := decide_eq_true (by omega)
      have HCL : Veil ((rcommitsUpTo ts i).length ≤ 1000000) := ⟨Nat.le_trans (rcommitsUpTo_length ts i) (Nat.le_trans (Nat.mul_le_mul (show i ≤ 1000 by omega) HTL.out) (by decide))⟩
      go_wp2_with fail
      go_loopw [3, 6] (fun v3 v6 wq => ∃ k : Nat, k ≤ ts.length ∧ v6 = .int .i64 k ∧ Veil (kRt.R 43 wq w.heap.size (fun _ => True) v3 (rcommitsUpTo ts i ++ (ts.take k).filter (fun t => t.f7 && t.f5 == (i : Int)))) ∧ Veil (Young w2.heap.size v3) ∧ Veil (Below w2.heap.size w2 wq)) (fun _ v6 _ => ts.length - (intOf v6).toNat)
      case atStart => exact ⟨0, Nat.zero_le _, rfl, ⟨by simpa using HO.out⟩, HY, HW⟩
      case round =>
        obtain ⟨k, hk, rfl, HO, HY, HW⟩ := hrel
        have htl := HTL.out
        by_cases hkl : k < ts.length
        · have e1 : decide ((k : Int) < (ts.length : Int)) = true := decide_eq_true (by omega)
          have e2 : (k : Int) < (ts.length : Int) := by omega
          obtain ⟨g, nv, cv', row, hve, hM, ⟨A8, c8, rfl⟩, q0, q1, q2, q3, q4, q5, q6, q7, q8⟩ := rt_elem HV.out HW.out k hkl
          injection hve with hve h2 h3
          subst hve h2 h3
          have HM := Veil.mk hM
          have HF := Veil.mk (show (ts.take (k + 1)).filter (fun t => t.f7 && t.f5 == (i : Int)) = (ts.take k).filter (fun t => t.f7 && t.f5 == (i : Int)) ++ (if ts[k].f7 && ts[k].f5 == (i : Int) then [ts[k]] else []) by
            rw [List.take_succ_eq_append_getElem hkl, List.filter_append, List.filter_cons]; split <;> rfl)
          obtain ⟨t, ht⟩ : ∃ t, ts[k] = t := ⟨_, rfl⟩
          rw [ht] at HM HF q0 q1 q2 q3 q4 q5 q6 q7 q8
          clear hM ht
          by_cases h7 : t.f7 = true
          · rw [h7] at q7
            by_cases h5 : t.f5 = (i : Int)
            · have m5 : (t.f5 == (i : Int)) = true := beq_iff_eq.2 h5
              have HF2 : Veil ((ts.take (k + 1)).filter (fun t => t.f7 && t.f5 == (i : Int)) = (ts.take k).filter (fun t => t.f7 && t.f5 == (i : Int)) ++ [t]) := ⟨by rw [HF.out, h7, m5]; rfl⟩
              have HLL : Veil ((rcommitsUpTo ts i ++ (ts.take k).filter (fun t => t.f7 && t.f5 == (i : Int))).length ≤ 1001000) := ⟨by
                rw [List.length_append]
                have h1 := List.length_filter_le (fun t : Tr => t.f7 && t.f5 == (i : Int)) (ts.take k)
                rw [List.length_take] at h1
                have := HCL.out
                omega⟩
              have H7 := Veil.mk h7
              have HMN : Veil (kRt.M wr w.heap.size (fun k => k < w2.heap.size) t [.int .i64 t.f0, .int .i64 t.f1, .int .i64 t.f2, .int .i64 t.f3, .int .i64 t.f4, .int .i64 t.f5, .int .i64 t.f6, .bool true, .slice A8 t.f8.length c8]) := ⟨by have := HM.out; unfold trC at this; rwa [h7] at this⟩
              have HBB := Veil.mk (HB.out.trans (HW.out.mono HB.out.size))
              have HYN : Veil (∀ k, k < w2.heap.size → True ∧ some k ≠ u3.ownBlock) := ⟨fun k hk => ⟨trivial, fun he => by have := HY.out k he.symm; omega⟩⟩
              obtain ⟨out, hout⟩ : ∃ out, rcommitsUpTo ts i ++ (ts.take k).filter (fun t => t.f7 && t.f5 == (i : Int)) = out := ⟨_, rfl⟩
              have HOU := Veil.mk hout
              rw [hout] at HO HLL
              clear hout h5 h7 HF HM
              go_wp2_with (first | ((with_reducible refine gate_builtin (b := .append) (xs := #[.tmp 35, .tmp 40]) rfl ?_); at_builtin; go_must (refine Kd.R_append kRt (w0 := w) w.heap.size rfl (.tmp 35) (.tmp 40) 39 43 (.agg #[.int .i64 0, .int .i64 0, .int .i64 0, .int .i64 0, .int .i64 0, .int .i64 0, .int .i64 0, .bool false, .slice none 0 0]) 88 rfl Try.underlying39 info43 rfl (Nat.succ_pos 8) (Nat.succ_pos 87) u3 out t _ (fun _ => True) (fun k => k < w2.heap.size) ?hs ?hx ?hp ?hq (fun _ _ => trivial) ?ho ?hb ?hz ?hl ?_); go_must (case hs => rfl); go_must (case hx => rfl); go_must (case ho => exact HO.out); go_must (case hb => exact HBB.out); go_must (case hz => exact HBB.out.size); go_must (case hl => have := HLL.out; omega); go_must (case hq => exact HYN.out); go_must (case hp => exact HMN.out); intro v1 w6 hR hB6 hg hat; have HRN := Veil.mk hR; have HYY := Veil.mk (young_grown HY.out HW.out.size hat); have HW6 := Veil.mk (HW.out.grown hg HW.out.size (fun k hk => HY.out k hk)); clear hR hB6 hg hat))
              exact ⟨⟨k + 1, by omega, by go_num, ⟨by rw [HF2.out, ← List.append_assoc, HOU.out]; exact HRN.out⟩, HYY, HW6⟩, by simp [intOf]; omega⟩
            · have m5 : (t.f5 == (i : Int)) = false := beq_eq_false_iff_ne.2 h5
              have HF2 : Veil ((ts.take (k + 1)).filter (fun t => t.f7 && t.f5 == (i : Int)) = (ts.take k).filter (fun t => t.f7 && t.f5 == (i : Int))) := ⟨by rw [HF.out, m5]; simp⟩
              clear h5 HM HF
              go_wp2
              exact ⟨⟨k + 1, by omega, by go_num, ⟨by rw [HF2.out]; exact HO.out⟩, HY, HW⟩, by simp [intOf]; omega⟩
          · have h7' : t.f7 = false := by simpa using h7
            rw [h7'] at q7
            have HF2 : Veil ((ts.take (k + 1)).filter (fun t => t.f7 && t.f5 == (i : Int)) = (ts.take k).filter (fun t => t.f7 && t.f5 == (i : Int))) := ⟨by rw [HF.out, h7']; simp⟩
            clear h7 HM HF
            go_wp2
            exact ⟨⟨k + 1, by omega, by go_num, ⟨by rw [HF2.out]; exact HO.out⟩, HY, HW⟩, by simp [intOf]; omega⟩
        · have e1 : decide ((k : Int) < (ts.length : Int)) = false := decide_eq_false (by omega)
          have HF : Veil (kRt.R 43 wr w.heap.size (fun _ => True) u3 (rcommitsUpTo ts (i + 1))) := ⟨by
            have := HO.out
            rw [show k = ts.length by omega, List.take_length] at this
            rw [rcommitsUpTo_next]
            exact this⟩
          go_wp2
          exact ⟨⟨i + 1, by omega, by go_num, HF, HY, HW⟩, by simp [intOf]; omega⟩
    · have d1 : decide ((i : Int) < (l.length : Int)) = false := decide_eq_false (by omega)
      have HF : Veil (kRt.R 43 wr w.heap.size (fun _ => True) u3 (rcommits l)) := ⟨by rw [HE.out, ← show i = l.length by omega]; exact HO.out⟩
      go_wp2
      go_ret
      exact ⟨_, rfl, HF.out, HB.out.trans (HW.out.mono HB.out.size)⟩
end Go.Proofs.Ytjmnbbflahacoaa.Hist
/- HistTells's walk: true for every trace. No condition. -/
namespace Go.Proofs.Ytjmnbbflahacoaa.Hist
open Go.RowKit Go.ChangeMaps Go.Maps Go.Proofs.Ytjmnbbflahacoaa.Mem Go.Proofs.Ytjmnbbflahacoaa.PHistTells Go.Proofs.YtjmnbbflahacoaaW.PrintWords
set_option linter.unusedVariables false
set_option linter.unusedSimpArgs false

theorem triesM_len (l : List Ev) : (triesM l).length ≤ l.length := by
  unfold triesM
  cases h : readM l with
  | none => simp
  | some ts => exact readM_length h
theorem triesM_wrong {l : List Ev} (h : rightM l = false) : triesM l = [] := by
  unfold rightM at h
  unfold triesM
  cases hr : readM l with
  | none => rfl
  | some ts => rw [hr] at h; cases h
theorem commits_short {l : List Ev} {cs : List Tr} (hl : l.length ≤ 1000) (hc : CommitsOf l cs) : cs.length ≤ 1000 := by
  rw [hc.perm.length_eq]
  unfold ended
  have h1 := List.length_filter_le (fun t : Tr => t.f7) (triesM l)
  have h2 := triesM_len l
  omega
end Go.Proofs.Ytjmnbbflahacoaa.Hist
