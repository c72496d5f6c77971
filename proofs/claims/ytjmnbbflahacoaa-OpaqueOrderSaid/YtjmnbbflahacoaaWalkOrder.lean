/- OpaqueOrder's walk: true for all values and every trace. No condition. -/
import Derived.Test.YtjmnbbflahacoaaOrderP
namespace Go.Proofs.Ytjmnbbflahacoaa.Opq
open Go.RowKit Go.Maps Go.ChangeMaps Go.Proofs.Ytjmnbbflahacoaa.Mem Go.Proofs.Ytjmnbbflahacoaa.Hist Go.Proofs.Ytjmnbbflahacoaa.Model Go.Proofs.Ytjmnbbflahacoaa.PHistTells Go.Proofs.YtjmnbbflahacoaaW.PrintWords
set_option linter.unusedVariables false
set_option linter.unusedSimpArgs false

theorem wf_small {n : Int} (h0 : -1000000 ≤ n) (h1 : n ≤ 1000000) : (Lit.int .i64 n).wf = true := by
  have e0 : IntKind.i64.min = -9223372036854775808 := by decide
  have e1 : IntKind.i64.max = 9223372036854775807 := by decide
  show (decide (IntKind.i64.min ≤ n) && decide (n ≤ IntKind.i64.max)) = true
  rw [e0, e1, Bool.and_eq_true]
  exact ⟨decide_eq_true (by omega), decide_eq_true (by omega)⟩
/-- What the map says behind k of an order. -/
def posV (os : List Th) (k : Nat) (v : Value) : Option Value := (key1 v).bind fun j => (posM os k j).map (fun i : Nat => .int .i64 (i : Int))
theorem posV_at (os : List Th) (k : Nat) (j : Int) : posV os k (.int .i64 j) = (posM os k j).map (fun i : Nat => .int .i64 (i : Int)) := rfl
theorem posV_put {first : List Int} {l : List Ev} {os : List Th} (h : OrderOf first l os) {k : Nat} (hk : k < os.length) (v : Value) : posV os (k + 1) v = put (posV os k) (.int .i64 os[k].2) (.int .i64 k) v := by
  by_cases hv : v = .int .i64 os[k].2
  · subst hv
    rw [put_same, posV_at, posM_next h hk, if_pos rfl]
    rfl
  · rw [put_other _ _ hv]
    unfold posV
    cases hj : key1 v with
    | none => rfl
    | some j =>
      have ho := key1_of hj
      simp only [Option.bind_some]
      rw [posM_next h hk, if_neg (fun hh => hv (by rw [ho, hh]))]
theorem pos_look2 {w : World} {b : Nat} {os : List Th} {k : Nat} (h : MapAt Try.prog 3 w b (posV os k)) {j : Int} (wj : (Lit.int .i64 j).wf = true) (hn : posM os k j = none) :
    (Instr.lookup 74 (.map (some b)) (.int .i64 j) true).run Try.prog w = .ok (.tuple #[.int .i64 0, .bool false]) w := by
  have := run_lookup_ok keyed_thread Try.underlying74 (z := .int .i64 0) (by intro u; go_simp) (keyOf_thread wj) h
  rw [this, posV_at, hn]
  rfl
theorem pos_look {w : World} {b : Nat} {os : List Th} {k : Nat} (h : MapAt Try.prog 3 w b (posV os k)) {j : Int} (wj : (Lit.int .i64 j).wf = true) {i : Nat} (hn : posM os k j = some i) :
    (Instr.lookup 74 (.map (some b)) (.int .i64 j) false).run Try.prog w = .ok (.int .i64 i) w := by
  have := run_lookup keyed_thread Try.underlying74 (z := .int .i64 0) (by intro u; go_simp) (keyOf_thread wj) h
  rw [this, posV_at, hn]
  rfl
theorem R_setBlock {W : World} {base : Nat} {v : Value} {xs : List Int} (h : kI.R 2 W base (fun _ => True) v xs) {b : Nat} {es : Array MapEntry} {clock : Nat} (hm : W.heap[b]? = some (.map es clock)) (o : Obj) : kI.R 2 (setBlock W b o) base (fun _ => True) v xs :=
  Kd.R_mono (Kd.R_move (Kd.R_bound h) (fun k hk => by
    have hne : b ≠ k := by
      rintro rfl
      obtain ⟨_, _, _, q, _, cells, hc⟩ := hk
      rw [hm] at hc
      injection hc with hc
      cases hc
    simp [setBlock, hne])) (fun _ _ => trivial)
theorem commits_short4 (l : List Ev) : (commitsM l).length ≤ l.length := by
  have hcs : CommitsOf l ((ended l).mergeSort (fun a b => decide (a.f5 ≤ b.f5))) := ⟨List.mergeSort_perm _ _, by
    have := List.pairwise_mergeSort (le := fun a b : Tr => decide (a.f5 ≤ b.f5)) (by intro a b c; simp; omega) (by intro a b; simp; omega) (ended l)
    exact this.imp (fun h => by simpa using h)⟩
  rw [← commits_is hcs]
  exact commits_len hcs
/-- The last state. -/
theorem olast_any (w : World) (A : Option Addr) (c : Nat) (l : List Ev) (Av : Option Addr) (cv : Nat) (first : List Int) (hC : kEv.C w A l.length l) (hl : l.length ≤ 1000) (hok : ∀ e ∈ l, EvOk e) (hF : kI.C w Av first.length first) (hfl : first.length ≤ 1000000) :
    Calls Try.prog 35 #[.slice Av first.length cv, .slice A l.length c] w
      fun e W' => ∃ B d s, e = .returned (.slice B s.length d) ∧ (stsM first l)[(commitsM l).length]? = some s ∧ kI.C W' B s.length s ∧ Below w.heap.size w W' := by
  have HST := Veil.mk (states_any w A c l Av cv first hC (by omega) hok hF hfl (fun t ht => Nat.le_trans (commitsM_acc l t ht) (by omega)))
  have HSL := Veil.mk (stsM_length first l)
  have HCL : Veil ((commitsM l).length ≤ 1000) := ⟨by have := commits_short4 l; omega⟩
  obtain ⟨ss, hss⟩ : ∃ ss, stsM first l = ss := ⟨_, rfl⟩
  obtain ⟨n, hn⟩ : ∃ n, (commitsM l).length = n := ⟨_, rfl⟩
  rw [hss] at HST HSL ⊢
  rw [hn] at HSL HCL ⊢
  clear hC hok hF hfl hss hn hl
  go_enter Try.func35, Try.ntmps35
  go_wp2_with (first | (go_at_call 33; go_must (refine HST.out.mono ?_; rintro ed w2 ⟨v, rfl, hv, hb⟩; obtain ⟨g, c1, Ak, ck, rfl, z0, _, y0, _, _⟩ := sts_own hv n (by have := HSL.out; omega); have HY := Veil.mk y0; have HB := Veil.mk hb; have hi : (ss.length : Int) - 1 = (n : Int) := (by have := HSL.out; omega); have hj : n < ss.length := (by have := HSL.out; omega); have hw1 : IntKind.i64.wrap ((ss.length : Int) - 1) = (n : Int) := (by rw [hi]; exact IntWalk.i64_in _ (by have := HCL.out; omega)); have hj2 : (n : Int) < (ss.length : Int) := (by omega); have HG : Veil (ss[n]? = some ss[n]) := ⟨List.getElem?_eq_getElem hj⟩; have hl1 : 1 ≤ ss.length := (by omega); have hl2 : ss.length ≤ 1001 := (by have := HSL.out; have := HCL.out; omega); clear hv hb y0)))
  go_ret
  exact ⟨_, _, _, rfl, HG.out, HY.out, HB.out⟩
/-- What stands in OpaqueOrder's loops: the map says the first k of the order, the values are those behind the first m. -/
structure OrdAt (w0 W : World) (b : Nat) (first : List Int) (l : List Ev) (os : List Th) (O T : Option Addr) (v : Value) (k m : Nat) : Prop where
  o : kI.C w0 O os.length (os.map (·.2))
  t : kTr.C w0 T (triesM l).length (triesM l)
  mp : MapAt Try.prog 3 W b (posV os k)
  v : kI.R 2 W w0.heap.size (fun _ => True) v (valsK first l os m)
  low : w0.heap.size ≤ b
  below : Below w0.heap.size w0 W
theorem OrdAt.step {w0 W W' : World} {b : Nat} {first : List Int} {l : List Ev} {os : List Th} {O T : Option Addr} {v : Value} {k m : Nat} (h : OrdAt w0 W b first l os O T v k m) (hb : Below W.heap.size W W') : OrdAt w0 W' b first l os O T v k m :=
  ⟨h.o, h.t, h.mp.same (hb.block b h.mp.lt), Kd.R_below h.v hb, h.low, below_of h.below hb⟩
theorem OrdAt.put {w0 W : World} {b : Nat} {first : List Int} {l : List Ev} {os : List Th} {O T : Option Addr} {v : Value} {k m : Nat} (h : OrdAt w0 W b first l os O T v k m) (hs : OrderOf first l os) (hk : k < os.length) {o2 : Obj} (hm : MapAt Try.prog 3 (setBlock W b o2) b (Mem.put (posV os k) (.int .i64 os[k].2) (.int .i64 k))) : OrdAt w0 (setBlock W b o2) b first l os O T v (k + 1) m := by
  obtain ⟨es, clock, he, _⟩ := h.mp
  exact ⟨h.o, h.t, hm.ext (posV_put hs hk), R_setBlock h.v he o2, h.low, belowSet h.below h.low o2⟩
theorem OrdAt.num {w0 W : World} {b : Nat} {first : List Int} {l : List Ev} {os : List Th} {O T : Option Addr} {v : Value} {k m : Nat} (h : OrdAt w0 W b first l os O T v k m) (i : Nat) (hi : i < os.length) : ∃ ao, O = some ao ∧ W.cell? (ao.add i) = some (.int .i64 os[i].2) := by
  have hO : kI.C W O (os.map (·.2)).length (os.map (·.2)) := by rw [List.length_map]; exact Kd.C_below h.o h.below
  obtain ⟨ao, rfl, y0⟩ := int_at hO i (by rw [List.length_map]; exact hi)
  rw [List.getElem_map] at y0
  exact ⟨ao, rfl, y0⟩
theorem tr_at4 {w : World} {A : Option Addr} {l : List Tr} (h : kTr.C w A l.length l) (k : Nat) (hk : k < l.length) :
    ∃ ad A8 c8, A = some ad ∧ w.cell? (ad.add (k * 9)) = some (.int .i64 l[k].f0) ∧ w.cell? ⟨(ad.add (k * 9)).block, (ad.add (k * 9)).off + 1, none⟩ = some (.int .i64 l[k].f1) ∧ w.cell? ⟨(ad.add (k * 9)).block, (ad.add (k * 9)).off + 2, none⟩ = some (.int .i64 l[k].f2) ∧ w.cell? ⟨(ad.add (k * 9)).block, (ad.add (k * 9)).off + 3, none⟩ = some (.int .i64 l[k].f3) ∧ w.cell? ⟨(ad.add (k * 9)).block, (ad.add (k * 9)).off + 4, none⟩ = some (.int .i64 l[k].f4) ∧ w.cell? ⟨(ad.add (k * 9)).block, (ad.add (k * 9)).off + 5, none⟩ = some (.int .i64 l[k].f5) ∧ w.cell? ⟨(ad.add (k * 9)).block, (ad.add (k * 9)).off + 6, none⟩ = some (.int .i64 l[k].f6) ∧ w.cell? ⟨(ad.add (k * 9)).block, (ad.add (k * 9)).off + 7, none⟩ = some (.bool l[k].f7) ∧ w.cell? ⟨(ad.add (k * 9)).block, (ad.add (k * 9)).off + 8, none⟩ = some (.slice A8 l[k].f8.length c8) ∧ kAcc.C w A8 l[k].f8.length l[k].f8 := by
  obtain ⟨ad, A8, c8, rfl, h0, h1, h2, h3, h4, h5, h6, h7, h8, h9⟩ := at_T29 h (k : Int) (by omega) (by omega)
  have hx : rd_T29 l (k : Int) = l[k] := by unfold rd_T29; simp [List.getD, hk]
  simp only [Int.toNat_natCast, hx] at h0 h1 h2 h3 h4 h5 h6 h7 h8 h9
  exact ⟨ad, A8, c8, rfl, h0, h1, h2, h3, h4, h5, h6, h7, h8, h9.2⟩
/-- A try's nine cells, and where its accesses lie. -/
structure TrCells (W : World) (ad : Addr) (j : Nat) (t : Tr) (A8 : Option Addr) (c8 : Nat) : Prop where
  q0 : W.cell? (ad.add (j * 9)) = some (.int .i64 t.f0)
  q1 : W.cell? ⟨(ad.add (j * 9)).block, (ad.add (j * 9)).off + 1, none⟩ = some (.int .i64 t.f1)
  q2 : W.cell? ⟨(ad.add (j * 9)).block, (ad.add (j * 9)).off + 2, none⟩ = some (.int .i64 t.f2)
  q3 : W.cell? ⟨(ad.add (j * 9)).block, (ad.add (j * 9)).off + 3, none⟩ = some (.int .i64 t.f3)
  q4 : W.cell? ⟨(ad.add (j * 9)).block, (ad.add (j * 9)).off + 4, none⟩ = some (.int .i64 t.f4)
  q5 : W.cell? ⟨(ad.add (j * 9)).block, (ad.add (j * 9)).off + 5, none⟩ = some (.int .i64 t.f5)
  q6 : W.cell? ⟨(ad.add (j * 9)).block, (ad.add (j * 9)).off + 6, none⟩ = some (.int .i64 t.f6)
  q7 : W.cell? ⟨(ad.add (j * 9)).block, (ad.add (j * 9)).off + 7, none⟩ = some (.bool t.f7)
  q8 : W.cell? ⟨(ad.add (j * 9)).block, (ad.add (j * 9)).off + 8, none⟩ = some (.slice A8 t.f8.length c8)
  acc : kAcc.C W A8 t.f8.length t.f8
theorem TrCells.keep {w0 W : World} {ad : Addr} {j : Nat} {t : Tr} {A8 : Option Addr} {c8 : Nat} (h : TrCells w0 ad j t A8 c8) (hb : Below w0.heap.size w0 W) : TrCells W ad j t A8 c8 :=
  have e : ∀ o v, w0.cell? o = some v → W.cell? o = some v := fun o v hv => (hb.cell (p := o) (World.block_lt_of_cell? w0 _ hv)).trans hv
  ⟨e _ _ h.q0, e _ _ h.q1, e _ _ h.q2, e _ _ h.q3, e _ _ h.q4, e _ _ h.q5, e _ _ h.q6, e _ _ h.q7, e _ _ h.q8, Kd.C_below h.acc hb⟩
theorem tr_cells4 {w : World} {A : Option Addr} {l : List Tr} (h : kTr.C w A l.length l) (k : Nat) (hk : k < l.length) : ∃ ad A8 c8, A = some ad ∧ TrCells w ad k l[k] A8 c8 := by
  obtain ⟨ad, A8, c8, e, h0, h1, h2, h3, h4, h5, h6, h7, h8, h9⟩ := tr_at4 h k hk
  exact ⟨ad, A8, c8, e, h0, h1, h2, h3, h4, h5, h6, h7, h8, h9⟩

set_option maxHeartbeats 16000000 in
set_option maxRecDepth 100000 in
theorem opaqueOrder_any (w : World) (Av : Option Addr) (cv : Nat) (first : List Int) (A : Option Addr) (c : Nat) (l : List Ev) (hF : kI.C w Av first.length first) (hC : kEv.C w A l.length l) (hc : l.length ≤ c) (hok : ∀ e ∈ l, EvOkO e) :
    Calls Try.prog 15 #[.slice Av first.length cv, .slice A l.length c] w fun e w' => e = .returned (.bool true) ∧ Below w.heap.size w w' := by
  have HF := Veil.mk hF
  have HC := Veil.mk hC
  have HO := Veil.mk hok
  have HCC := Veil.mk hc
  clear hF hC hok hc
  by_cases h120 : 120 < l.length
  · have g0 : decide ((120 : Int) < (l.length : Int)) = true := decide_eq_true (by omega)
    clear h120
    go_enter Try.func15, Try.ntmps15
    go_wp2_with (first | (go_at_call 43; refine (alive19_any _).mono ?_; rintro ed w1 ⟨rfl, hb⟩; have HB := Veil.mk hb; clear hb))
    go_ret
    exact ⟨rfl, HB.out⟩
  have g0 : decide ((120 : Int) < (l.length : Int)) = false := decide_eq_false (by omega)
  by_cases h20 : 20 < first.length
  · have g1 : decide ((20 : Int) < (first.length : Int)) = true := decide_eq_true (by omega)
    clear h120 h20
    go_enter Try.func15, Try.ntmps15
    go_wp2_with (first | (go_at_call 43; refine (alive19_any _).mono ?_; rintro ed w1 ⟨rfl, hb⟩; have HB := Veil.mk hb; clear hb))
    go_ret
    exact ⟨rfl, HB.out⟩
  have g1 : decide ((20 : Int) < (first.length : Int)) = false := decide_eq_false (by omega)
  have HL : Veil (l.length ≤ 120 ∧ first.length ≤ 20) := ⟨by omega⟩
  have hl1 : l.length ≤ 120 := by omega
  have hf1 : first.length ≤ 20 := by omega
  clear h120 h20
  have HOR := Veil.mk (fun (W : World) (h : Below w.heap.size w W) => order_any W A c l Av cv first (Kd.C_below HC.out h) HCC.out HL.out.1 HO.out (Kd.C_below HF.out h) HL.out.2)
  have HTR := Veil.mk (fun (W : World) (h : Below w.heap.size w W) => tries_any W A c l (Kd.C_below HC.out h) (by have := HL.out; omega) (fun e he => (HO.out e he).1))
  have HLS := Veil.mk (fun (W : World) (h : Below w.heap.size w W) => olast_any W A c l Av cv first (Kd.C_below HC.out h) (by have := HL.out; omega) (fun e he => (HO.out e he).1) (Kd.C_below HF.out h) (by have := HL.out; omega))
  by_cases he : errM first l = 0
  · have m0 : (errM first l != 0) = false := by simp [he]
    have HE := Veil.mk he
    have HSO := Veil.mk (seenOut_ok he).2
    have HRT := Veil.mk (bad_of_ok he).1
    have HTL : Veil ((triesM l).length ≤ 120) := ⟨by
      have h1 : (triesM l).length ≤ l.length := by
        unfold triesM
        cases h : readM l with
        | none => simp
        | some ts => exact readM_length h
      omega⟩
    clear he
    have hmm := @run_makeMap Try.prog
    go_enter Try.func15, Try.ntmps15
    go_wp2_with (first | (go_at_call 43; refine (alive19_any _).mono ?_; rintro ed w1 ⟨rfl, hb⟩; have HB := Veil.mk hb; clear hb) | (go_at_call 45; go_must (refine (HOR.out _ HB.out).mono ?_; rintro ed w3 ⟨⟨v, rfl, ho, _⟩, hb⟩; obtain ⟨os, hos, hv⟩ := ho HE.out; have hrd := Kd.R_reads hv; rw [List.length_map, order_length hos] at hrd; obtain ⟨Oa, co, rfl, _, hO⟩ := hrd; rw [← order_length hos] at hO; have HOO := Veil.mk hO; have HOS := Veil.mk hos; have HB3 := Veil.mk (below_of HB.out hb); have HOL := Veil.mk (order_length hos); clear hv hb hO ho hos)) | (go_at_call 21; go_must (refine (HTR.out _ HB3.out).mono ?_; rintro ed w4 ⟨v, rfl, hv, hb⟩; obtain ⟨T, ct, rfl, _, hT⟩ := Kd.R_reads hv; have HTT := Veil.mk hT; have HOO4 := Veil.mk (Kd.C_below HOO.out hb); have HB4 := Veil.mk (below_of HB3.out hb); have HMD := Veil.mk (MapAt.made Try.prog 3 w4); have HBM := Veil.mk ((Below.refl w4.heap.size w4).alloc (Nat.le_refl _) (.map #[] 0)); clear hv hb hT)) | ((with_reducible refine gate_dst (N := 41) rfl ?_); refine Kd.R_lit (Kd.int .i64) _ 2 ?hg (N := 41) ?hd (xs := ([] : List Int)) (inner := []) (ok := fun _ => True) (okp := fun _ => True) ?hr ?hp (fun _ hk => hk) trivial (Below.refl _ _) (Nat.le_refl _) (by simp) ?_; (case hd => rfl); (case hg => rfl); (case hr => first | (go_simp; done) | (go_simp; rfl)); (case hp => exact (Reps.none _ _)); intro v5 w5 ho5 hb hg_ hnew_; clear hg_ hnew_; have HO5 := Veil.mk ho5; have HB5 := Veil.mk hb; clear ho5 hb) | ((with_reducible refine gate_builtin (b := .append) (xs := #[.tmp 41, .tmp 42]) rfl ?_); at_builtin; refine Kd.R_append_rows (Kd.int .i64) (w0 := w4.alloc (.map #[] 0)) (w4.alloc (.map #[] 0)).heap.size rfl (.tmp 41) (.tmp 42) 47 2 (.int .i64 0) 8 rfl Try.underlying47 infoI rfl (by decide) (by omega) v5 [] first _ _ _ (fun _ => True) (fun _ => False) rfl rfl ?aO ?aR (fun _ _ h => h) (fun _ h => h.elim) ?aF ?aB ?aS ?aL ?_; (case aR => exact Kd.C_below HF.out (below_of (below_of HB4.out HBM.out) HB5.out)); (case aB => exact HB5.out); (case aF => exact (fun _ _ => trivial)); (case aO => exact HO5.out); (case aS => exact HB5.out.size); (case aL => have := HL.out; simp; omega); intro v7 w6 ho hb hg hat; have HV6 : Veil (kI.R 2 w6 (w4.alloc (.map #[] 0)).heap.size (fun _ => True) v7 first) := ⟨by simpa using ho⟩; have HB6 := Veil.mk hb; clear ho hb hg hat))
    clear hmm
    have HA0 : Veil (OrdAt w4 w6 w4.heap.size first l os Oa T v7 0 0) := ⟨⟨HOO4.out, HTT.out, (HMD.out.same (HB6.out.block _ (by simp))).ext (fun v => by unfold posV posM; cases key1 v <;> simp), Kd.R_lower (by rw [valsK_zero]; exact HV6.out) (by simp), Nat.le_refl _, HBM.out.trans (HB6.out.mono (by simp))⟩⟩
    obtain ⟨B0, d0, rfl⟩ := Kd.R_slice HV6.out
    clear HOO HOO4 HTT HMD HBM HO5 HB5 HV6 HB6
    have HOLL : Veil (os.length ≤ 120) := ⟨by have := HOL.out; have := HTL.out; omega⟩
    have HVL : Veil (∀ k, (valsK first l os k).length = first.length) := ⟨fun k => foldM_length _ _⟩
    go_loopw [9, 10] (fun v9 v10 wr => ∃ (k : Nat) (B : Option Addr) (d : Nat), k ≤ os.length ∧ v10 = .int .i64 k ∧ v9 = .slice B first.length d ∧ Veil (OrdAt w4 wr w4.heap.size first l os Oa T (.slice B first.length d) k k)) (fun _ v10 _ => os.length - (intOf v10).toNat)
    case atStart => exact ⟨0, B0, d0, Nat.zero_le _, rfl, rfl, HA0⟩
    case round =>
      obtain ⟨k, B, d, hk, rfl, rfl, HA⟩ := hrel
      have hol := HOLL.out
      have htl := HTL.out
      by_cases hlt : k < os.length
      · as_aux_lemma =>
        have hol2 := HOL.out
        have d1 : decide ((k : Int) < ((triesM l).length : Int)) = true := decide_eq_true (by omega)
        have d2 : (k : Int) < ((triesM l).length : Int) := by omega
        clear hol2
        obtain ⟨ao, rfl, y0⟩ := HA.out.num k hlt
        obtain ⟨j, t', ht', hjl, hj2, hje⟩ := order_at HOS.out k hlt
        obtain ⟨ad, A8, c8, rfl, hq⟩ := tr_cells4 HA.out.t j hjl
        have ht := List.getElem?_eq_getElem hjl
        have HQ := Veil.mk hq
        have HFO := Veil.mk (fits_order HRT.out HOS.out HSO.out hlt hj2 ht)
        have HVN := Veil.mk (valsK_next (first := first) hlt hj2 ht)
        have HPN := posM_new HOS.out hlt
        have HTA := Veil.mk (triesM_acc l _ (List.getElem_mem hjl))
        have HTW := Veil.mk (tries_ok HO.out (List.getElem_mem hjl))
        rw [hj2] at y0 HPN
        obtain ⟨t, htt⟩ : ∃ t, (triesM l)[j] = t := ⟨_, rfl⟩
        rw [htt] at HQ HFO HVN HTA HTW
        have hj3 : (j : Int) < ((triesM l).length : Int) := by omega
        have wj : (Lit.int .i64 (j : Int)).wf = true := wf_small (by omega) (by omega)
        have k1 : decide ((j : Int) < 0) = false := decide_eq_false (by omega)
        have k2 : decide (((triesM l).length : Int) ≤ (j : Int)) = false := decide_eq_false (by omega)
        have hlk := pos_look2 HA.out.mp wj HPN
        obtain ⟨o2, hup, hm2⟩ := run_update keyed_thread Try.underlying74 (keyOf_thread wj) HA.out.mp (.int .i64 (k : Int))
        have HA2 := Veil.mk (HA.out.put HOS.out hlt (by rw [hj2]; exact hm2))
        obtain ⟨ao', e1, y02⟩ := HA2.out.num k hlt
        injection e1 with e1
        subst e1
        rw [hj2] at y02
        obtain ⟨q0, q1, q2, q3, q4, q5, q6, q7, q8, _⟩ := HQ.out.keep HA2.out.below
        have HAC := Veil.mk (fun (W : World) (h : Below w4.heap.size w4 W) => Kd.C_below HQ.out.acc h)
        clear ht ht' htt hq hje HPN wj hm2
        have HFI : Veil (∀ W, OrdAt w4 W w4.heap.size first l os (some ao) (some ad) (.slice B first.length d) (k + 1) k → Calls Try.prog 38 #[.slice B first.length d, .agg #[.int .i64 t.f0, .int .i64 t.f1, .int .i64 t.f2, .int .i64 t.f3, .int .i64 t.f4, .int .i64 t.f5, .int .i64 t.f6, .bool t.f7, .slice A8 t.f8.length c8]] W fun e w' => e = .returned (.bool true) ∧ Below W.heap.size W w') := ⟨fun W h => by
          have hrd := (Kd.R_reads' h.v).2.2
          have := fits_any W B d (valsK first l os k) t A8 c8 hrd (by rw [HVL.out]; have := HL.out; omega) (HAC.out W h.below) (by have := HTA.out; have := HL.out; omega) HTW.out
          rw [HVL.out, HFO.out] at this
          exact this⟩
        have HW2 : Veil (∀ W, Below (setBlock wr w4.heap.size o2).heap.size (setBlock wr w4.heap.size o2) W → OrdAt w4 W w4.heap.size first l os (some ao) (some ad) (.slice B first.length d) (k + 1) k ∧ W.cell? (ao.add k) = some (.int .i64 (j : Int)) ∧ TrCells W ad j t A8 c8) := ⟨fun W hb => ⟨HA2.out.step hb, by
          obtain ⟨ao', e1, y03⟩ := (HA2.out.step hb).num k hlt
          injection e1 with e1
          subst e1
          rw [hj2] at y03
          exact y03, HQ.out.keep (HA2.out.step hb).below⟩⟩
        cases h7 : t.f7 with
        | true =>
          have HX := Veil.mk h7
          have HAP : Veil (∀ W, OrdAt w4 W w4.heap.size first l os (some ao) (some ad) (.slice B first.length d) (k + 1) k → Calls Try.prog 30 #[.slice B first.length d, .agg #[.int .i64 t.f0, .int .i64 t.f1, .int .i64 t.f2, .int .i64 t.f3, .int .i64 t.f4, .int .i64 t.f5, .int .i64 t.f6, .bool t.f7, .slice A8 t.f8.length c8]] W fun e w' => ∃ B' d', e = .returned (.slice B' first.length d') ∧ OrdAt w4 w' w4.heap.size first l os (some ao) (some ad) (.slice B' first.length d') (k + 1) (k + 1)) := ⟨fun W h => by
            have h7 := HX.out
            have hrd := (Kd.R_reads' h.v).2.2
            have := apply_any W B d (valsK first l os k) t A8 c8 hrd (by rw [HVL.out]; have := HL.out; omega) (HAC.out W h.below) (by have := HTA.out; have := HL.out; omega)
            rw [HVL.out] at this
            refine this.mono ?_
            rintro e w' ⟨v, rfl, hv, hb⟩
            have hvn := HVN.out
            rw [h7, if_pos rfl] at hvn
            rw [← hvn] at hv
            obtain ⟨B', d', he⟩ := Kd.R_slice hv
            rw [HVL.out] at he
            subst he
            have h2 := h.step hb
            exact ⟨B', d', rfl, h2.o, h2.t, h2.mp, Kd.R_lower hv h.below.size, h2.low, h2.below⟩⟩
          rw [h7] at q7 HFI HAP
          clear h7 hj2
          go_wp2_with (first | (go_at_call 38; go_must (refine (HFI.out _ HA2.out).mono ?_; rintro ed w7 ⟨rfl, hb⟩; obtain ⟨HA7, y07, z0, z1, z2, z3, z4, z5, z6, z7, z8, _⟩ := HW2.out w7 hb; rw [HX.out] at z7; have HA7 := Veil.mk HA7; clear hb)) | (go_at_call 30; go_must (refine (HAP.out _ HA7.out).mono ?_; rintro ed w8 ⟨B', d', rfl, hA8⟩; have HA8 := Veil.mk hA8; clear hA8)))
          exact ⟨⟨k + 1, _, _, by omega, by go_num, rfl, HA8⟩, by simp [intOf]; omega⟩
        | false =>
          rw [h7] at q7 HFI HVN
          have HX := Veil.mk h7
          clear h7 hj2
          go_wp2_with (first | (go_at_call 38; go_must (refine (HFI.out _ HA2.out).mono ?_; rintro ed w7 ⟨rfl, hb⟩; obtain ⟨HA7, y07, z0, z1, z2, z3, z4, z5, z6, z7, z8, _⟩ := HW2.out w7 hb; rw [HX.out] at z7; have HA7 := Veil.mk HA7; clear hb)))
          have HA8 : Veil (OrdAt w4 w7 w4.heap.size first l os (some ao) (some ad) (.slice B first.length d) (k + 1) (k + 1)) := ⟨⟨HA7.out.o, HA7.out.t, HA7.out.mp, by rw [HVN.out]; exact HA7.out.v, HA7.out.low, HA7.out.below⟩⟩
          exact ⟨⟨k + 1, _, _, by omega, by go_num, rfl, HA8⟩, by simp [intOf]; omega⟩
      · as_aux_lemma =>
        have d1 : decide ((k : Int) < ((triesM l).length : Int)) = false := decide_eq_false (by have := HOL.out; omega)
        have hkk : k = os.length := by omega
        subst hkk
        have d1n : decide (os.length < (triesM l).length) = false := decide_eq_false (by have := HOL.out; omega)
        have HLK : Veil (∀ W (a : Nat), OrdAt w4 W w4.heap.size first l os Oa T (.slice B first.length d) os.length os.length → a < (triesM l).length → ∃ ka, posM os os.length (a : Int) = some ka ∧ ∀ n, (Instr.lookup 74 (.map (some w4.heap.size)) (.int .i64 (a : Int)) false).run Try.prog (W.drewN n) = .ok (.int .i64 (ka : Int)) (W.drewN n)) := ⟨fun W a h ha => by
          obtain ⟨ka, _, hka, _⟩ := posM_all HOS.out ha
          exact ⟨ka, hka, fun n => pos_look (h.mp.same (w' := W.drewN n) rfl) (wf_small (by omega) (by have := HTL.out; omega)) hka⟩⟩
        have HOE := Veil.mk (fun e he => (HO.out e he).1)
        have HLST := Veil.mk (valsK_last HRT.out HOS.out HSO.out)
        go_wp2_with fail
        go_loopw [13] (fun v13 wr => ∃ a : Nat, a ≤ (triesM l).length ∧ v13 = .int .i64 a ∧ Veil (OrdAt w4 wr w4.heap.size first l os Oa T (.slice B first.length d) os.length os.length)) (fun v13 _ => (triesM l).length - (intOf v13).toNat)
        case atStart => exact ⟨0, Nat.zero_le _, rfl, HA⟩
        case round =>
          obtain ⟨a, ha, rfl, HX⟩ := hrel
          clear HA d1 d1n
          by_cases hal : a < (triesM l).length
          · as_aux_lemma =>
            have d1 : decide ((a : Int) < ((triesM l).length : Int)) = true := decide_eq_true (by omega)
            have d2 : (a : Int) < ((triesM l).length : Int) := by omega
            go_wp2_with fail
            go_loopw [14] (fun v14 wq => ∃ b : Nat, b ≤ (triesM l).length ∧ v14 = .int .i64 b ∧ Veil (OrdAt w4 wq w4.heap.size first l os Oa T (.slice B first.length d) os.length os.length)) (fun v14 _ => (triesM l).length - (intOf v14).toNat)
            case atStart => exact ⟨0, Nat.zero_le _, rfl, HX⟩
            case round =>
              obtain ⟨b, hb, rfl, HY⟩ := hrel
              clear HX
              by_cases hbl : b < (triesM l).length
              · as_aux_lemma =>
                have d3 : decide ((b : Int) < ((triesM l).length : Int)) = true := decide_eq_true (by omega)
                have d4 : (b : Int) < ((triesM l).length : Int) := by omega
                obtain ⟨ad, A8, c8, rfl, hq⟩ := tr_cells4 HY.out.t a hal
                obtain ⟨ad', B8, e8, hae, hz⟩ := tr_cells4 HY.out.t b hbl
                injection hae with hae
                subst hae
                obtain ⟨ka, hka, hla⟩ := HLK.out _ a HY.out hal
                obtain ⟨kb, hkb, hlb⟩ := HLK.out _ b HY.out hbl
                have HTM := Veil.mk (fun (h0 : 0 ≤ (triesM l)[a].f5) (hlt : (triesM l)[a].f5 < (triesM l)[b].f4) => time_ok HOE.out HOS.out HSO.out (List.getElem?_eq_getElem hal) (List.getElem?_eq_getElem hbl) hka hkb h0 hlt)
                obtain ⟨_, _, _, _, _, q5, _⟩ := hq.keep HY.out.below
                obtain ⟨_, _, _, _, z4, _⟩ := hz.keep HY.out.below
                obtain ⟨x, hx⟩ : ∃ x, (triesM l)[a].f5 = x := ⟨_, rfl⟩
                obtain ⟨y, hy⟩ : ∃ y, (triesM l)[b].f4 = y := ⟨_, rfl⟩
                rw [hx] at q5 HTM
                rw [hy] at z4 HTM
                clear hx hy hq hz hka hkb
                have HN := Veil.mk (fun n => HY.out.step ((Below.refl wr.heap.size wr).drewN n))
                by_cases hx0 : 0 ≤ x
                · have m1 : decide (0 ≤ x) = true := decide_eq_true hx0
                  by_cases hxy : x < y
                  · have m2 : decide (x < y) = true := decide_eq_true hxy
                    have hkk := HTM.out hx0 hxy
                    have m3 : decide ((kb : Int) < (ka : Int)) = false := decide_eq_false (by omega)
                    have m4 : decide (kb < ka) = false := decide_eq_false (by omega)
                    clear hkk
                    go_wp2_with fail
                    go_quiet (fail)
                    go_wp2
                    exact ⟨⟨b + 1, by omega, by go_num, ⟨HN.out _⟩⟩, by simp [intOf]; omega⟩
                  · have m2 : decide (x < y) = false := decide_eq_false hxy
                    go_wp2_with fail
                    go_quiet (fail)
                    go_wp2
                    exact ⟨⟨b + 1, by omega, by go_num, ⟨HN.out _⟩⟩, by simp [intOf]; omega⟩
                · have m1 : decide (0 ≤ x) = false := decide_eq_false hx0
                  go_wp2_with fail
                  go_quiet (fail)
                  go_wp2
                  exact ⟨⟨b + 1, by omega, by go_num, ⟨HN.out _⟩⟩, by simp [intOf]; omega⟩
              · as_aux_lemma =>
                have d3 : decide ((b : Int) < ((triesM l).length : Int)) = false := decide_eq_false (by omega)
                go_wp2
                exact ⟨⟨a + 1, by omega, by go_num, HY⟩, by simp [intOf]; omega⟩
          · as_aux_lemma =>
            have d1 : decide ((a : Int) < ((triesM l).length : Int)) = false := decide_eq_false (by omega)
            have hvl := HVL.out os.length
            go_wp2_with (first | (go_at_call 35; go_must (refine (HLS.out _ (below_of HB4.out HX.out.below)).mono ?_; rintro ed w7 ⟨D, e, s, rfl, hs, hk, hb⟩; rw [HLST.out] at hs; injection hs with hs; subst hs; rw [hvl] at hk ⊢; have HK := Veil.mk hk; have HX7 := Veil.mk (HX.out.step hb); clear hk hb)) | (go_at_call 31; go_must (have hv7 := (Kd.R_reads' HX7.out.v).2.2; have hk7 := HK.out; have hcl := vals_any w7 B D d e (valsK first l os os.length) (valsK first l os os.length) hv7 (by rw [hvl]; exact hk7) (by rw [hvl]; have := HL.out; omega) (by rw [hvl]; have := HL.out; omega); rw [hvl] at hcl; refine hcl.mono ?_; rintro ed w8 ⟨rfl, hb⟩; have HB8 := Veil.mk (below_of (below_of HB4.out HX7.out.below) hb); clear hb hv7 hk7 hcl)))
            go_ret
            exact ⟨by simp, HB8.out⟩
  · have m0 : (errM first l != 0) = true := by simp [he]
    have HE := Veil.mk he
    clear he
    go_enter Try.func15, Try.ntmps15
    go_wp2_with (first | (go_at_call 43; refine (alive19_any _).mono ?_; rintro ed w1 ⟨rfl, hb⟩; have HB := Veil.mk hb; clear hb) | (go_at_call 45; go_must (refine (HOR.out _ HB.out).mono ?_; rintro ed w3 ⟨⟨v, rfl, _, ho⟩, hb⟩; have hvv := ho HE.out; subst hvv; have HB3 := Veil.mk (below_of HB.out hb); clear hb ho)))
    go_ret
    exact ⟨rfl, HB3.out⟩
end Go.Proofs.Ytjmnbbflahacoaa.Opq
