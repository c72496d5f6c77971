/- model, second part: the iterator over the states. No condition. -/
import Derived.Test.YtjmnbbflahacoaaModelA
import Derived.Test.YtjmnbbflahacoaaEnds
namespace Go.Proofs.Ytjmnbbflahacoaa.Model
open Go.RowKit Go.ChangeMaps Go.Maps Go.Proofs.Ytjmnbbflahacoaa.Mem Go.Proofs.Ytjmnbbflahacoaa.Hist Go.Proofs.Ytjmnbbflahacoaa.PHistTells Go.Proofs.YtjmnbbflahacoaaW.PrintWords
set_option linter.unusedVariables false
set_option linter.unusedSimpArgs false
attribute [local go_sem] Oper.semAt_some

/-- The values behind some tries. -/
def foldM (first : List Int) (ts : List Tr) : List Int := ts.foldl (fun v t => applyM v t.f8) first
theorem foldM_length (ts : List Tr) : ∀ first, (foldM first ts).length = first.length := by
  induction ts with
  | nil => intro _; rfl
  | cons t ts ih => intro first; unfold foldM at *; rw [List.foldl_cons, ih, applyM_length]
theorem foldM_next (first : List Int) (ts : List Tr) {k : Nat} (h : k < ts.length) : foldM first (ts.take (k + 1)) = applyM (foldM first (ts.take k)) ts[k].f8 := by
  unfold foldM
  rw [List.take_succ_eq_append_getElem h, List.foldl_append]
  rfl

/-- What a round keeps: all tries, accesses and values. -/
structure KeepsT (W W' : World) : Prop where
  cells : ∀ k T, Typed W k T → (T = 29 ∨ T = 33 ∨ T = 2) → W'.heap[k]? = W.heap[k]?
  size : W.heap.size ≤ W'.heap.size
theorem KeepsT.tries {W W' : World} (h : KeepsT W W') {base : Nat} {v : Value} {ts : List Tr} (hR : kTr.R 29 W base (fun _ => True) v ts) : kTr.R 29 W' base (fun _ => True) v ts :=
  Kd.R_mono (Kd.R_move (Kd.R_bound hR) (fun k hk => by
    obtain ⟨_, _, _, q, hq, cells, hc⟩ := hk
    refine h.cells k q ⟨cells, hc⟩ ?_
    have hq' : q = 29 ∨ q = 33 := by simpa [kTr, k29, k33, Kd.iso, Kd.pair, Kd.int, Kd.bool, Kd.scalar, Kd.slice] using hq
    rcases hq' with h | h
    · exact .inl h
    · exact .inr (.inl h))) (fun _ _ => trivial)
theorem KeepsT.ints {W W' : World} (h : KeepsT W W') {base : Nat} {v : Value} {xs : List Int} (hR : kI.R 2 W base (fun _ => True) v xs) : kI.R 2 W' base (fun _ => True) v xs :=
  Kd.R_mono (Kd.R_move (Kd.R_bound hR) (fun k hk => by
    obtain ⟨_, _, _, q, hq, cells, hc⟩ := hk
    refine h.cells k q ⟨cells, hc⟩ ?_
    have hq' : q = 2 := by simpa [kI, Kd.int, Kd.scalar] using hq
    exact .inr (.inr hq'))) (fun _ _ => trivial)

/-- A row's try: its cells, and its accesses, owned. -/
theorem tr_own {w : World} {base : Nat} {v : Value} {ts : List Tr} (h : kTr.R 29 w base (fun _ => True) v ts) (k : Nat) (hk : k < ts.length) :
    ∃ g n c A8 c8, v = .slice (some ⟨g, 0, none⟩) n c ∧ kAcc.R 33 w base (fun _ => True) (.slice A8 ts[k].f8.length c8) ts[k].f8 ∧
      w.cell? ⟨g, k * 9, none⟩ = some (.int .i64 ts[k].f0) ∧ w.cell? ⟨g, k * 9 + 1, none⟩ = some (.int .i64 ts[k].f1) ∧ w.cell? ⟨g, k * 9 + 2, none⟩ = some (.int .i64 ts[k].f2) ∧ w.cell? ⟨g, k * 9 + 3, none⟩ = some (.int .i64 ts[k].f3) ∧
      w.cell? ⟨g, k * 9 + 4, none⟩ = some (.int .i64 ts[k].f4) ∧ w.cell? ⟨g, k * 9 + 5, none⟩ = some (.int .i64 ts[k].f5) ∧ w.cell? ⟨g, k * 9 + 6, none⟩ = some (.int .i64 ts[k].f6) ∧ w.cell? ⟨g, k * 9 + 7, none⟩ = some (.bool ts[k].f7) ∧ w.cell? ⟨g, k * 9 + 8, none⟩ = some (.slice A8 ts[k].f8.length c8) := by
  obtain ⟨g, cap, hv, _, _, _⟩ := Kd.R_form h (by omega)
  subst hv
  obtain ⟨cs, hcl, hM, hcc, hfr⟩ := Kd.R_elem h z29 (k : Int) (by omega) (by omega)
  simp only [Int.toNat_natCast, List.getD_eq_getElem?_getD, List.getElem?_eq_getElem hk, Option.getD_some] at hM hcc
  obtain ⟨row, rfl, hrow⟩ := k29_openM hM
  obtain ⟨A8, c8, rfl⟩ := Kd.R_slice hrow
  exact ⟨g, _, _, A8, c8, rfl, Kd.R_mono hrow (fun _ _ => trivial), hcc 0 _ rfl, hcc 1 _ rfl, hcc 2 _ rfl, hcc 3 _ rfl, hcc 4 _ rfl, hcc 5 _ rfl, hcc 6 _ rfl, hcc 7 _ rfl, hcc 8 _ rfl⟩

theorem tr_cells {w : World} {b T : Nat} {t : Tr} {row : Value} (h : Blk w b T (trC t row)) : w.cell? ⟨b, 0, none⟩ = some (.int .i64 t.f0) ∧ w.cell? ⟨b, 1, none⟩ = some (.int .i64 t.f1) ∧ w.cell? ⟨b, 2, none⟩ = some (.int .i64 t.f2) ∧ w.cell? ⟨b, 3, none⟩ = some (.int .i64 t.f3) ∧
    w.cell? ⟨b, 4, none⟩ = some (.int .i64 t.f4) ∧ w.cell? ⟨b, 5, none⟩ = some (.int .i64 t.f5) ∧ w.cell? ⟨b, 6, none⟩ = some (.int .i64 t.f6) ∧ w.cell? ⟨b, 7, none⟩ = some (.bool t.f7) ∧ w.cell? ⟨b, 8, none⟩ = some row :=
  ⟨h.cell 0 _ rfl, h.cell 1 _ rfl, h.cell 2 _ rfl, h.cell 3 _ rfl, h.cell 4 _ rfl, h.cell 5 _ rfl, h.cell 6 _ rfl, h.cell 7 _ rfl, h.cell 8 _ rfl⟩

set_option maxHeartbeats 4000000 in
set_option maxRecDepth 100000 in
theorem states1_any (n : Nat) (w : World) (A : Option Addr) (c : Nat) (l : List Ev) (hC : kEv.C w A l.length l) (hl : l.length ≤ 1000000) (hok : ∀ e ∈ l, EvOk e) (Av : Option Addr) (cv : Nat) (first : List Int) (hF : kI.C w Av first.length first) (hfl : first.length ≤ 1000000)
    (L bf bl : Nat) (cf : w.cell? ⟨bf, 0, none⟩ = some (.slice Av first.length cv)) (cl : w.cell? ⟨bl, 0, none⟩ = some (.slice A l.length c)) (hacc : ∀ t ∈ commitsM l, t.f8.length ≤ 1000000)
    (J : Nat → World → Prop) (hab : ∀ k W W', J k W → Below W.heap.size W W' → J k W')
    (hround : ∀ (k : Nat) (t : Tr) (row v : Value) W, k < l.length → (commitsM l)[k]? = some t → J k W → kAcc.R 33 W w.heap.size (fun _ => True) row t.f8 → kI.R 2 W w.heap.size (fun _ => True) v (foldM first ((commitsM l).take (k + 1))) →
      YieldAt Fence.wide (n - 1) Try.prog L #[.agg (trC t row).toArray, v] W (fun e W' => e = .returned (.bool true) ∧ (J (k + 1) W' ∧ KeepsT W W')))
    (h0 : J 0 w) :
    CallsIn Fence.wide n Try.prog 79 #[.func (.yield L) #[] #[], .pointer (some ⟨bf, 0, none⟩), .pointer (some ⟨bl, 0, none⟩)] w
      fun e W' => (∃ v, e = .returned v) ∧ J (commitsM l).length W' := by
  have HR := Veil.mk (commits_any w A c l hC (by omega) hok)
  have HJ := Veil.mk h0
  have HLL := Veil.mk hl
  have HFL := Veil.mk hfl
  have HFC := Veil.mk hF
  have HAB := Veil.mk hab
  have HRO := Veil.mk hround
  have HAC := Veil.mk hacc
  have HCI : Veil (∀ cs, CommitsOf l cs → cs = commitsM l) := ⟨fun cs h => commits_is h⟩
  clear hC hl hok hab hround h0 hF hfl hacc
  obtain ⟨cs, hcs⟩ : ∃ cs, commitsM l = cs := ⟨_, rfl⟩
  rw [hcs] at HRO HAC HCI ⊢
  clear hcs
  refine callsIn_of_wp Try.func79 rfl trivial ?_ rfl
  simp only [Try.ntmps79, List.size_toArray, List.length_cons, List.length_nil, Nat.reduceAdd, Nat.reduceSub, Array.replicate_succ, Array.replicate_zero, List.push_toArray, List.append_toArray, List.nil_append, List.cons_append]
  gi_wp2_with (refine ⟨trivial, wide_ok, ?_⟩; gi_at_call 25; refine ((callsIn_wide (n := n - 1)).2 HR.out).mono ?_; rintro ed w2 ⟨v, cs1, rfl, hv, hcs, hb⟩; have hlen := commits_len hcs; have hce := (HCI.out cs1 hcs).symm; subst hce; have hvr := Kd.R_reads hv; obtain ⟨Ac, cc, rfl, _, _⟩ := hvr; have HT := Veil.mk hv; have HB2 := Veil.mk hb; have HLN := Veil.mk hlen; clear hv hcs hb hlen)
  have HF2 := Veil.mk (Kd.C_below HFC.out HB2.out)
  have HJ2 := Veil.mk (HAB.out _ _ _ HJ.out HB2.out)
  clear HR HJ
  gi_loopw [4, 11] (fun v4 v11 wr => ∃ (k : Nat) (Aa : Option Addr) (ca : Nat), k ≤ cs.length ∧ v11 = .int .i64 k ∧ v4 = .slice Aa first.length ca ∧ Veil (kI.C wr Aa first.length (foldM first (cs.take k))) ∧ Veil (J k wr) ∧ Veil (kTr.R 29 wr w.heap.size (fun _ => True) (.slice Ac cs.length cc) cs) ∧ Veil (w.heap.size ≤ wr.heap.size)) (fun _ v11 _ => cs.length - (intOf v11).toNat)
  case atStart => exact ⟨0, Av, cv, Nat.zero_le _, rfl, rfl, HF2, HJ2, HT, ⟨HB2.out.size⟩⟩
  case round =>
    obtain ⟨k, Aa, ca, hk, rfl, rfl, HA, HJk, HTk, HZk⟩ := hrel
    have hm := HLN.out
    have hm2 := HLL.out
    by_cases hlt : k < cs.length
    · obtain ⟨g, nv, cv', A8, c8, hve, hac, q0, q1, q2, q3, q4, q5, q6, q7, q8⟩ := tr_own HTk.out k hlt
      injection hve with hve h2 h3
      subst hve h2 h3
      have d1 : decide ((k : Int) < (cs.length : Int)) = true := decide_eq_true (by omega)
      have d2 : (k : Int) < (cs.length : Int) := by omega
      have HGT : Veil (cs[k]? = some cs[k]) := ⟨List.getElem?_eq_getElem hlt⟩
      have HNX := Veil.mk (foldM_next first cs hlt)
      have HLK := Veil.mk (HAC.out cs[k] (List.getElem_mem hlt))
      have HFF := Veil.mk (foldM_length (cs.take k) first)
      obtain ⟨t, ht⟩ : ∃ t, cs[k] = t := ⟨_, rfl⟩
      rw [ht] at HGT HNX HLK hac q0 q1 q2 q3 q4 q5 q6 q7 q8
      have HACC := Veil.mk hac
      have hrc := Kd.R_reads hac
      obtain ⟨A8', c8', he8, _, hC8⟩ := hrc
      injection he8 with he1 _ he3
      subst he1 he3
      have HC8 := Veil.mk hC8
      clear ht hac hC8
      obtain ⟨cur, hcur⟩ : ∃ cur, foldM first (cs.take k) = cur := ⟨_, rfl⟩
      rw [hcur] at HA HNX HFF
      clear hcur
      have hcl := HFF.out
      rw [← hcl] at HA
      have HBA := Veil.mk ((Below.refl wr.heap.size wr).alloc (Nat.le_refl _) (.cells #[.int .i64 t.f0, .int .i64 t.f1, .int .i64 t.f2, .int .i64 t.f3, .int .i64 t.f4, .int .i64 t.f5, .int .i64 t.f6, .bool t.f7, .slice A8 t.f8.length c8] 29))
      have HBX := Veil.mk (Blk.new wr #[.int .i64 t.f0, .int .i64 t.f1, .int .i64 t.f2, .int .i64 t.f3, .int .i64 t.f4, .int .i64 t.f5, .int .i64 t.f6, .bool t.f7, .slice A8 t.f8.length c8] 29)
      have HAP := Veil.mk (apply_any _ Aa ca cur t A8 c8 (Kd.C_below HA.out HBA.out) (by rw [hcl]; exact HFL.out) (Kd.C_below HC8.out HBA.out) HLK.out)
      rw [hcl] at HAP
      gi_wp2_with (first | (refine ⟨trivial, wide_ok, ?_⟩; gi_at_call 30; refine ((callsIn_wide (n := n - 1)).2 HAP.out).mono ?_; go_must (rintro e w3 ⟨v, rfl, hv, hb3⟩; rw [← HNX.out] at hv; have hv0 := Kd.R_lower hv (Nat.le_trans HZk.out HBA.out.size); have HV := Veil.mk hv0; have HB3 := Veil.mk (below_of HBA.out hb3); have HX3 := Veil.mk (HBX.out.below hb3 HBX.out.lt); clear hv hb3; have hvr := Kd.R_reads hv0; obtain ⟨An, cn, rfl, _, _⟩ := hvr; clear hv0; have hcc := tr_cells HX3.out; obtain ⟨p0, p1, p2, p3, p4, p5, p6, p7, p8⟩ := hcc; have hyr := HRO.out k t (.slice A8 t.f8.length c8) _ w3 (by omega) HGT.out (HAB.out _ _ _ HJk.out HB3.out) (Kd.R_below HACC.out HB3.out) HV.out; unfold YieldAt at hyr; obtain ⟨fn, tmps, assign, body, hy, hR⟩ := hyr; dsimp only [trC] at hy; have HRR := Veil.mk hR; clear hR)))
      refine ⟨wide_ok, HRR.out.mono ?_⟩
      rintro e w4 ⟨rfl, hJ4, hK4⟩
      have HJ4 := Veil.mk hJ4
      have HK4 := Veil.mk hK4
      clear hJ4 hK4 hy
      gi_wp2
      go_roundw
      case rel => exact ⟨k + 1, An, cn, by omega, by go_num, by rw [foldM_length], ⟨by have h := (Kd.R_reads' (HK4.out.ints HV.out)).2.2; rwa [foldM_length] at h⟩, HJ4, ⟨HK4.out.tries (Kd.R_below HTk.out HB3.out)⟩, ⟨Nat.le_trans HZk.out (Nat.le_trans HB3.out.size HK4.out.size)⟩⟩
      case measure => simp [intOf]; omega
    · have d1 : decide ((k : Int) < (cs.length : Int)) = false := decide_eq_false (by omega)
      have HF : Veil (J cs.length wr) := ⟨by have := HJk.out; rwa [show k = cs.length by omega] at this⟩
      gi_wp2
      (try simp only [Exit.inBlock, Exit.then])
      go_end0
      exact ⟨⟨_, rfl⟩, HF.out⟩
end Go.Proofs.Ytjmnbbflahacoaa.Model
