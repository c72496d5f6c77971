/- model: the iterator over the states, where a body may leave. No condition. -/
import Derived.Test.YtjmnbbflahacoaaSeqO
import Derived.Test.YtjmnbbflahacoaaModS
namespace Go.Proofs.Ytjmnbbflahacoaa.Lang
open Go.RowKit Go.ChangeMaps Go.Maps Go.Proofs.Ytjmnbbflahacoaa.Mem Go.Proofs.Ytjmnbbflahacoaa.Hist Go.Proofs.Ytjmnbbflahacoaa.Model Go.Proofs.Ytjmnbbflahacoaa.PHistTells Go.Proofs.YtjmnbbflahacoaaW.PrintWords
set_option linter.unusedVariables false
set_option linter.unusedSimpArgs false
attribute [local go_sem] Oper.semAt_some

set_option maxHeartbeats 4000000 in
set_option maxRecDepth 100000 in
theorem states2_any (n : Nat) (w : World) (A : Option Addr) (c : Nat) (l : List Ev) (hC : kEv.C w A l.length l) (hl : l.length ≤ 1000000) (hok : ∀ e ∈ l, EvOk e) (Av : Option Addr) (cv : Nat) (first : List Int) (hF : kI.C w Av first.length first) (hfl : first.length ≤ 1000000)
    (L bf bl : Nat) (cf : w.cell? ⟨bf, 0, none⟩ = some (.slice Av first.length cv)) (cl : w.cell? ⟨bl, 0, none⟩ = some (.slice A l.length c)) (hacc : ∀ t ∈ commitsM l, t.f8.length ≤ 1000000)
    (J : Nat → World → Prop) (Zs : World → Prop) (hab : ∀ k W W', J k W → Below W.heap.size W W' → J k W')
    (hround : ∀ (k : Nat) (t : Tr) (row v : Value) W, k < l.length → (commitsM l)[k]? = some t → J k W → kAcc.R 33 W w.heap.size (fun _ => True) row t.f8 → kI.R 2 W w.heap.size (fun _ => True) v (foldM first ((commitsM l).take (k + 1))) →
      YieldAt Fence.wide (n - 1) Try.prog L #[.agg (trC t row).toArray, v] W (fun e W' => (e = .returned (.bool true) ∧ (J (k + 1) W' ∧ KeepsT W W')) ∨ (e = .returned (.bool false) ∧ Zs W')))
    (h0 : J 0 w) :
    CallsIn Fence.wide n Try.prog 79 #[.func (.yield L) #[] #[], .pointer (some ⟨bf, 0, none⟩), .pointer (some ⟨bl, 0, none⟩)] w
      fun e W' => (∃ v, e = .returned v) ∧ (J (commitsM l).length W' ∨ Zs W') := by
  have HR := Veil.mk (commits_any w A c l hC (by omega) hok)
  have HJ := Veil.mk h0
  have HLL := Veil.mk hl
  have HFL := Veil.mk hfl
  have HFC := Veil.mk hF
  have HAB := Veil.mk hab
  have HRO := Veil.mk hround
  have HAC := Veil.mk hacc
  have HCI : Veil (∀ cs, CommitsOf l cs → cs = commitsM l) := ⟨fun cs h => commits_is h⟩
  clear hC hl hok hab hround h0 hF hfl hacc
  obtain ⟨cs, hcs⟩ : ∃ cs, commitsM l = cs := ⟨_, rfl⟩
  rw [hcs] at HRO HAC HCI ⊢
  clear hcs
  refine callsIn_of_wp Try.func79 rfl trivial ?_ rfl
  simp only [Try.ntmps79, List.size_toArray, List.length_cons, List.length_nil, Nat.reduceAdd, Nat.reduceSub, Array.replicate_succ, Array.replicate_zero, List.push_toArray, List.append_toArray, List.nil_append, List.cons_append]
  gi_wp2_with (refine ⟨trivial, wide_ok, ?_⟩; gi_at_call 25; refine ((callsIn_wide (n := n - 1)).2 HR.out).mono ?_; rintro ed w2 ⟨v, cs1, rfl, hv, hcs, hb⟩; have hlen := commits_len hcs; have hce := (HCI.out cs1 hcs).symm; subst hce; have hvr := Kd.R_reads hv; obtain ⟨Ac, cc, rfl, _, _⟩ := hvr; have HT := Veil.mk hv; have HB2 := Veil.mk hb; have HLN := Veil.mk hlen; clear hv hcs hb hlen)
  have HF2 := Veil.mk (Kd.C_below HFC.out HB2.out)
  have HJ2 := Veil.mk (HAB.out _ _ _ HJ.out HB2.out)
  clear HR HJ
  gi_loopw [4, 11] (fun v4 v11 wr => ∃ (k : Nat) (Aa : Option Addr) (ca : Nat), k ≤ cs.length ∧ v11 = .int .i64 k ∧ v4 = .slice Aa first.length ca ∧ Veil (kI.C wr Aa first.length (foldM first (cs.take k))) ∧ Veil (J k wr) ∧ Veil (kTr.R 29 wr w.heap.size (fun _ => True) (.slice Ac cs.length cc) cs) ∧ Veil (w.heap.size ≤ wr.heap.size)) (fun _ v11 _ => cs.length - (intOf v11).toNat)
  case atStart => exact ⟨0, Av, cv, Nat.zero_le _, rfl, rfl, HF2, HJ2, HT, ⟨HB2.out.size⟩⟩
  case round =>
    obtain ⟨k, Aa, ca, hk, rfl, rfl, HA, HJk, HTk, HZk⟩ := hrel
    have hm := HLN.out
    have hm2 := HLL.out
    by_cases hlt : k < cs.length
    · obtain ⟨g, nv, cv', A8, c8, hve, hac, q0, q1, q2, q3, q4, q5, q6, q7, q8⟩ := tr_own HTk.out k hlt
      injection hve with hve h2 h3
      subst hve h2 h3
      have d1 : decide ((k : Int) < (cs.length : Int)) = true := decide_eq_true (by omega)
      have d2 : (k : Int) < (cs.length : Int) := by omega
      have HGT : Veil (cs[k]? = some cs[k]) := ⟨List.getElem?_eq_getElem hlt⟩
      have HNX := Veil.mk (foldM_next first cs hlt)
      have HLK := Veil.mk (HAC.out cs[k] (List.getElem_mem hlt))
      have HFF := Veil.mk (foldM_length (cs.take k) first)
      obtain ⟨t, ht⟩ : ∃ t, cs[k] = t := ⟨_, rfl⟩
      rw [ht] at HGT HNX HLK hac q0 q1 q2 q3 q4 q5 q6 q7 q8
      have HACC := Veil.mk hac
      have hrc := Kd.R_reads hac
      obtain ⟨A8', c8', he8, _, hC8⟩ := hrc
      injection he8 with he1 _ he3
      subst he1 he3
      have HC8 := Veil.mk hC8
      clear ht hac hC8
      obtain ⟨cur, hcur⟩ : ∃ cur, foldM first (cs.take k) = cur := ⟨_, rfl⟩
      rw [hcur] at HA HNX HFF
      clear hcur
      have hcl := HFF.out
      rw [← hcl] at HA
      have HBA := Veil.mk ((Below.refl wr.heap.size wr).alloc (Nat.le_refl _) (.cells #[.int .i64 t.f0, .int .i64 t.f1, .int .i64 t.f2, .int .i64 t.f3, .int .i64 t.f4, .int .i64 t.f5, .int .i64 t.f6, .bool t.f7, .slice A8 t.f8.length c8] 29))
      have HBX := Veil.mk (Blk.new wr #[.int .i64 t.f0, .int .i64 t.f1, .int .i64 t.f2, .int .i64 t.f3, .int .i64 t.f4, .int .i64 t.f5, .int .i64 t.f6, .bool t.f7, .slice A8 t.f8.length c8] 29)
      have HAP := Veil.mk (apply_any _ Aa ca cur t A8 c8 (Kd.C_below HA.out HBA.out) (by rw [hcl]; exact HFL.out) (Kd.C_below HC8.out HBA.out) HLK.out)
      rw [hcl] at HAP
      gi_wp2_with (first | (refine ⟨trivial, wide_ok, ?_⟩; gi_at_call 30; refine ((callsIn_wide (n := n - 1)).2 HAP.out).mono ?_; go_must (rintro e w3 ⟨v, rfl, hv, hb3⟩; rw [← HNX.out] at hv; have hv0 := Kd.R_lower hv (Nat.le_trans HZk.out HBA.out.size); have HV := Veil.mk hv0; have HB3 := Veil.mk (below_of HBA.out hb3); have HX3 := Veil.mk (HBX.out.below hb3 HBX.out.lt); clear hv hb3; have hvr := Kd.R_reads hv0; obtain ⟨An, cn, rfl, _, _⟩ := hvr; clear hv0; have hcc := tr_cells HX3.out; obtain ⟨p0, p1, p2, p3, p4, p5, p6, p7, p8⟩ := hcc; have hyr := HRO.out k t (.slice A8 t.f8.length c8) _ w3 (by omega) HGT.out (HAB.out _ _ _ HJk.out HB3.out) (Kd.R_below HACC.out HB3.out) HV.out; unfold YieldAt at hyr; obtain ⟨fn, tmps, assign, body, hy, hR⟩ := hyr; dsimp only [trC] at hy; have HRR := Veil.mk hR; clear hR)))
      refine ⟨wide_ok, HRR.out.mono ?_⟩
      rintro e w4 (⟨rfl, hJ4, hK4⟩ | ⟨rfl, hZ4⟩)
      · have HJ4 := Veil.mk hJ4
        have HK4 := Veil.mk hK4
        clear hJ4 hK4 hy
        gi_wp2
        go_roundw
        case rel => exact ⟨k + 1, An, cn, by omega, by go_num, by rw [foldM_length], ⟨by have h := (Kd.R_reads' (HK4.out.ints HV.out)).2.2; rwa [foldM_length] at h⟩, HJ4, ⟨HK4.out.tries (Kd.R_below HTk.out HB3.out)⟩, ⟨Nat.le_trans HZk.out (Nat.le_trans HB3.out.size HK4.out.size)⟩⟩
        case measure => simp [intOf]; omega
      · have HZ4 := Veil.mk hZ4
        clear hZ4 hy
        gi_wp2
        (try simp only [Exit.inBlock, Exit.then])
        refine bodyPost_ret (results_none rfl _ _ _) rfl ?_
        exact ⟨⟨_, rfl⟩, .inr HZ4.out⟩
    · have d1 : decide ((k : Int) < (cs.length : Int)) = false := decide_eq_false (by omega)
      have HF : Veil (J cs.length wr) := ⟨by have := HJk.out; rwa [show k = cs.length by omega] at this⟩
      gi_wp2
      (try simp only [Exit.inBlock, Exit.then])
      go_end0
      exact ⟨⟨_, rfl⟩, .inl HF.out⟩
end Go.Proofs.Ytjmnbbflahacoaa.Lang
