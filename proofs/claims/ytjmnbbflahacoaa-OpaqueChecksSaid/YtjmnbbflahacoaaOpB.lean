/- opaque: look, Seen and Check, walked. No condition. -/
import Derived.Test.YtjmnbbflahacoaaOpA
namespace Go.Proofs.Ytjmnbbflahacoaa.Opq
open Go.RowKit Go.Proofs.Ytjmnbbflahacoaa.Mem Go.Proofs.Ytjmnbbflahacoaa.Hist Go.Proofs.Ytjmnbbflahacoaa.Model Go.Proofs.Ytjmnbbflahacoaa.PHistTells Go.Proofs.YtjmnbbflahacoaaW.PrintWords
set_option linter.unusedVariables false
set_option linter.unusedSimpArgs false

/-- An event of int64s, its object too. -/
def EvOkO (e : Ev) : Prop := EvOk e ∧ (Lit.int .i64 e.f4).wf = true
theorem tries_ok {l : List Ev} (hok : ∀ e ∈ l, EvOkO e) {t : Tr} (ht : t ∈ triesM l) : ∀ a ∈ t.f8, (Lit.int .i64 a.f2).wf = true := fun a ha => by
  obtain ⟨x, hx, _, h4, _, _⟩ := (((triesM_good l).1 t ht).acc a ha).ev
  rw [← h4]
  exact (hok x (List.mem_of_getElem? hx)).2

/-- How far the tries are seen. -/
def seenUpTo (first : List Int) (l : List Ev) (k : Nat) : List Int := ((triesM l).take k).map (seenI (stsM first l) l)
/-- The first try that isn't seen. -/
def badM (first : List Int) (l : List Ev) : Nat := (triesM l).findIdx (fun t => decide (seenI (stsM first l) l t < 0))
/-- The error. -/
def errM (first : List Int) (l : List Ev) : Int := if rightM l then (if badM first l < (triesM l).length then 7 else 0) else 3
def seenOut (first : List Int) (l : List Ev) : List Int := if rightM l then seenUpTo first l (badM first l) else []

/-- What an append to a row of ints keeps. -/
structure KeepsO (W W' : World) : Prop where
  cells : ∀ k T, Typed W k T → T ≠ 3 → W'.heap[k]? = W.heap[k]?
  size : W.heap.size ≤ W'.heap.size
theorem KeepsO.tries {W W' : World} (h : KeepsO W W') {base : Nat} {v : Value} {ts : List Tr} (hR : kTr.R 29 W base (fun _ => True) v ts) : kTr.R 29 W' base (fun _ => True) v ts :=
  Kd.R_mono (Kd.R_move (Kd.R_bound hR) (fun k hk => by
    obtain ⟨_, _, _, q, hq, cells, hc⟩ := hk
    refine h.cells k q ⟨cells, hc⟩ ?_
    have hq' : q = 29 ∨ q = 33 := by simpa [kTr, k29, k33, Kd.iso, Kd.pair, Kd.int, Kd.bool, Kd.scalar, Kd.slice] using hq
    rcases hq' with rfl | rfl <;> decide)) (fun _ _ => trivial)
theorem KeepsO.sts {W W' : World} (h : KeepsO W W') {base : Nat} {v : Value} {ss : List (List Int)} (hR : kS.R 47 W base (fun _ => True) v ss) : kS.R 47 W' base (fun _ => True) v ss :=
  Kd.R_mono (Kd.R_move (Kd.R_bound hR) (fun k hk => by
    obtain ⟨_, _, _, q, hq, cells, hc⟩ := hk
    refine h.cells k q ⟨cells, hc⟩ ?_
    have hq' : q = 47 ∨ q = 2 := by simpa [kS, kI, Kd.slice, Kd.int, Kd.scalar] using hq
    rcases hq' with rfl | rfl <;> decide)) (fun _ _ => trivial)
theorem keepsO_of {W W' : World} {v : Value} {xs : List Int} {base : Nat} (hR : kI.R 3 W base (fun _ => True) v xs) (hg : W.grownBy W' v.ownBlock) : KeepsO W W' :=
  ⟨fun k T hk hT => hg.block k (typed_lt hk) (fun he => hT (by
    obtain ⟨c1, h1⟩ := row_typed hR he.symm
    obtain ⟨c2, h2⟩ := hk
    rw [h1] at h2
    injection h2 with h2
    injection h2 with _ h2 _
    exact h2.symm)), hg.size⟩

/-- What look's loop keeps. -/
structure LookAt (w W : World) (bb : Nat) (A : Option Addr) (c : Nat) (first : List Int) (l : List Ev) (S : Option Addr) (cs : Nat) (Ac : Option Addr) (cc k : Nat) (v : Value) : Prop where
  book : Blk W bb 146 [.slice A l.length c, .slice S (stsM first l).length cs, .int .i64 (beforeM l l.length)]
  tries : kTr.R 29 W w.heap.size (fun _ => True) (.slice Ac (triesM l).length cc) (triesM l)
  sts : kS.R 47 W w.heap.size (fun _ => True) (.slice S (stsM first l).length cs) (stsM first l)
  out : kI.R 3 W w.heap.size (fun _ => True) v (seenUpTo first l k)
  below : Below w.heap.size w W
theorem LookAt.step {w W W' : World} {bb : Nat} {A : Option Addr} {c : Nat} {first : List Int} {l : List Ev} {S : Option Addr} {cs : Nat} {Ac : Option Addr} {cc k : Nat} {v : Value} (h : LookAt w W bb A c first l S cs Ac cc k v) (hb : Below W.heap.size W W') : LookAt w W' bb A c first l S cs Ac cc k v :=
  ⟨h.book.below hb h.book.lt, Kd.R_below h.tries hb, Kd.R_below h.sts hb, Kd.R_below h.out hb, below_of h.below hb⟩
theorem seenUpTo_next (first : List Int) (l : List Ev) {k : Nat} (h : k < (triesM l).length) : seenUpTo first l (k + 1) = seenUpTo first l k ++ [seenI (stsM first l) l (triesM l)[k]] := by
  unfold seenUpTo
  rw [List.take_succ_eq_append_getElem h, List.map_append]
  rfl
theorem LookAt.append {w W w6 : World} {bb : Nat} {A : Option Addr} {c : Nat} {first : List Int} {l : List Ev} {S : Option Addr} {cs : Nat} {Ac : Option Addr} {cc k : Nat} {v v1 : Value} {x : Int} (h : LookAt w W bb A c first l S cs Ac cc k v) (hk : k < (triesM l).length) (hx : x = seenI (stsM first l) l (triesM l)[k])
    (hR : kI.R 3 w6 w.heap.size (fun _ => True) v1 (seenUpTo first l k ++ [x])) (hg : W.grownBy w6 v.ownBlock) (hb : Below w.heap.size w w6) : LookAt w w6 bb A c first l S cs Ac cc (k + 1) v1 := by
  have hK := keepsO_of h.out hg
  subst hx
  refine ⟨(hK.cells bb _ (blk_typed h.book) (by decide)).trans h.book, hK.tries h.tries, hK.sts h.sts, ?_, hb⟩
  rw [seenUpTo_next first l hk]
  exact hR
theorem bad_at {first : List Int} {l : List Ev} {k : Nat} (hk : k < (triesM l).length) (hpre : ∀ i, (hi : i < (triesM l).length) → i < k → ¬ seenI (stsM first l) l (triesM l)[i] < 0) (hb : seenI (stsM first l) l (triesM l)[k] < 0) : badM first l = k := by
  unfold badM
  rw [List.findIdx_eq hk]
  exact ⟨by simpa using hb, fun j hj => by have := hpre j (by omega) hj; simpa using this⟩
theorem bad_none {first : List Int} {l : List Ev} (hpre : ∀ i, (hi : i < (triesM l).length) → ¬ seenI (stsM first l) l (triesM l)[i] < 0) : badM first l = (triesM l).length := by
  unfold badM
  rw [List.findIdx_eq_length]
  intro t ht
  obtain ⟨i, hi, rfl⟩ := List.getElem_of_mem ht
  have := hpre i hi
  simpa using this

theorem infoInt : (Try.prog.info? 3).map (fun i => (i.zero, i.size, i.bytes)) = some (some (.int .i64 0), 1, 8) := by kernel_rfl
/-- What look hands back. -/
structure LookPost (w : World) (first : List Int) (l : List Ev) (e : Ending) (w' : World) : Prop where
  ex : ∃ v0 v1, e = .returned (.tuple #[v0, v1, .int .i64 (errM first l)]) ∧ kI.R 3 w' w.heap.size (fun _ => True) v0 (seenOut first l) ∧ (errM first l = 0 → kTr.R 29 w' w.heap.size (fun _ => True) v1 (triesM l)) ∧ (errM first l ≠ 0 → v1 = .slice none 0 0)
  below : Below w.heap.size w w'
set_option maxHeartbeats 16000000 in
set_option maxRecDepth 100000 in
theorem look_any (w : World) (A : Option Addr) (c : Nat) (l : List Ev) (Av : Option Addr) (cv : Nat) (first : List Int) (hC : kEv.C w A l.length l) (hc : l.length ≤ c) (hl : l.length ≤ 120) (hok : ∀ e ∈ l, EvOkO e) (hF : kI.C w Av first.length first) (hfl : first.length ≤ 20) :
    Calls Try.prog 70 #[.slice Av first.length cv, .slice A l.length c] w
      (LookPost w first l) := by
  have hok' : ∀ e ∈ l, EvOk e := fun e he => (hok e he).1
  have HR := Veil.mk (fun (W : World) (h : Below w.heap.size w W) => right_any W A c l (Kd.C_below hC h) (by omega) hok')
  have HT := Veil.mk (fun (W : World) (h : Below w.heap.size w W) => tries_any W A c l (Kd.C_below hC h) (by omega) hok')
  have HST := Veil.mk (fun (W : World) (h : Below w.heap.size w W) => states_any W A c l Av cv first (Kd.C_below hC h) (by omega) hok' (Kd.C_below hF h) (by omega) (fun t ht => Nat.le_trans (commitsM_acc l t ht) (by omega)))
  have HBE := Veil.mk (fun (W : World) (h : Below w.heap.size w W) => before_any W A c l (l.length : Int) (Kd.C_below hC h) hc (by omega))
  have HC := Veil.mk hC
  have HCC := Veil.mk hc
  have HL := Veil.mk hl
  have HFL := Veil.mk hfl
  have HTO := Veil.mk (fun (t : Tr) (ht : t ∈ triesM l) => tries_ok hok ht)
  have HTA := Veil.mk (triesM_acc l)
  clear hC hc hl hok hok' hF hfl
  cases hr : rightM l with
  | false =>
    have HE : Veil (errM first l = 3 ∧ seenOut first l = []) := ⟨by unfold errM seenOut; rw [hr]; exact ⟨rfl, rfl⟩⟩
    have HRT := Veil.mk (HR.out w (Below.refl _ _))
    rw [hr] at HRT
    clear hr
    go_enter Try.func70, Try.ntmps70
    go_wp2_with (first | (go_at_call 20; go_must (refine HRT.out.mono ?_; rintro ed w2 ⟨rfl, hb⟩; have HB2 := Veil.mk hb; clear hb)))
    go_ret3
    refine ⟨⟨.slice none 0 0, .slice none 0 0, by rw [HE.out.1]; rfl, by rw [HE.out.2]; exact Kd.R_nil _ _ _ _ _, fun h => ?_, fun _ => rfl⟩, HB2.out⟩
    rw [HE.out.1] at h
    exact absurd h (by decide)
  | true =>
    have HCN := Veil.mk (commitsM_length l hr)
    have HSL := Veil.mk (stsM_length first l)
    have HSE := Veil.mk (stsM_each first l)
    have HTL : Veil ((triesM l).length ≤ 120) := ⟨by
      have h1 : (triesM l).length ≤ l.length := by
        unfold triesM
        cases h : readM l with
        | none => simp
        | some ts => exact readM_length h
      have := HL.out
      omega⟩
    have HER : Veil (errM first l = if badM first l < (triesM l).length then 7 else 0) := ⟨by unfold errM; rw [hr]; rfl⟩
    have HSO : Veil (seenOut first l = seenUpTo first l (badM first l)) := ⟨by unfold seenOut; rw [hr]; rfl⟩
    have HRT := Veil.mk (HR.out w (Below.refl _ _))
    rw [hr] at HRT
    have hbl := beforeM_len l l.length
    have hll := HL.out
    have HBM : Veil (beforeM l l.length ≤ 120) := ⟨by omega⟩
    clear hr hbl hll
    go_enter Try.func70, Try.ntmps70
    go_wp2_with (first | (go_at_call 20; go_must (refine HRT.out.mono ?_; rintro ed w2 ⟨rfl, hb⟩; have HB2 := Veil.mk hb; clear hb)) | (go_at_call 33; go_must (refine (HST.out _ HB2.out).mono ?_; rintro ed w3 ⟨v, rfl, hv, hb⟩; have HS3 := Veil.mk hv; have HB3 := Veil.mk (below_of HB2.out hb); obtain ⟨S, cs, rfl, _, _⟩ := Kd.R_reads hv; clear hv hb)) | (go_at_call 23; go_must (refine (HBE.out _ HB3.out).mono ?_; rintro ed w4 ⟨rfl, hb⟩; have HB4 := Veil.mk (below_of HB3.out hb); have HS4 := Veil.mk (Kd.R_below HS3.out hb); have HBK := Veil.mk (Blk.new w4 #[.slice A l.length c, .slice S (stsM first l).length cs, .int .i64 (beforeM l l.length)] 146); have HB5 := Veil.mk ((Below.refl w4.heap.size w4).alloc (Nat.le_refl _) (.cells #[.slice A l.length c, .slice S (stsM first l).length cs, .int .i64 (beforeM l l.length)] 146)); clear hb)) | (go_at_call 21; go_must (refine (HT.out _ (below_of HB4.out HB5.out)).mono ?_; rintro ed w6 ⟨v, rfl, hv, hb⟩; obtain ⟨Ac, cc, rfl, _, _⟩ := Kd.R_reads hv; have HLA : Veil (LookAt w w6 w4.heap.size A c first l S cs Ac cc 0 (.slice none 0 0)) := ⟨⟨(HBK.out.below hb HBK.out.lt), Kd.R_lower hv (below_of HB4.out HB5.out).size, Kd.R_lower (Kd.R_below (Kd.R_below HS4.out HB5.out) hb) HB2.out.size, Kd.R_nil _ _ _ _ _, below_of (below_of HB4.out HB5.out) hb⟩⟩; clear hv hb)))
    have hs1 := HB2.out.size
    go_loopw [9, 30] (fun v9 v30 wr => ∃ (k : Nat) (B : Option Addr) (d : Nat), k ≤ (triesM l).length ∧ v30 = .int .i64 k ∧ v9 = .slice B k d ∧ Veil (LookAt w wr w4.heap.size A c first l S cs Ac cc k (.slice B k d)) ∧ Veil (∀ i, (hi : i < (triesM l).length) → i < k → ¬ seenI (stsM first l) l (triesM l)[i] < 0)) (fun _ v30 _ => (triesM l).length - (intOf v30).toNat)
    case atStart => exact ⟨0, none, 0, Nat.zero_le _, rfl, rfl, HLA, ⟨fun i _ hi => absurd hi (Nat.not_lt_zero _)⟩⟩
    case round =>
      obtain ⟨k, B, d, hk, rfl, rfl, HK, HPRE⟩ := hrel
      have htl := HTL.out
      clear hs1
      by_cases hlt : k < (triesM l).length
      · as_aux_lemma =>
        have d1 : decide ((k : Int) < ((triesM l).length : Int)) = true := decide_eq_true (by omega)
        have d2 : (k : Int) < ((triesM l).length : Int) := by omega
        obtain ⟨g, nv, cv', A8, c8, hve, hac, q0, q1, q2, q3, q4, q5, q6, q7, q8⟩ := tr_own HK.out.tries k hlt
        injection hve with e1 e2 e3
        subst e1 e3
        clear e2
        obtain ⟨A9, c9, he9, _, hC8⟩ := Kd.R_reads hac
        injection he9 with e1 _ e3
        subst e1 e3
        have HC8 := Veil.mk hC8
        have HAP := Veil.mk (fun (W w6 : World) (v1 : Value) (x : Int) (h : LookAt w W w4.heap.size A c first l S cs (some ⟨g, 0, none⟩) cc k (.slice B k d)) => h.append (w6 := w6) (v1 := v1) (x := x) hlt)
        have HBAD := Veil.mk (fun h => bad_at (first := first) hlt HPRE.out h)
        have HNX : Veil (¬ seenI (stsM first l) l (triesM l)[k] < 0 → ∀ i, (hi : i < (triesM l).length) → i < k + 1 → ¬ seenI (stsM first l) l (triesM l)[i] < 0) := ⟨fun h i hi hik => by
          by_cases hie : i = k
          · subst hie; exact h
          · exact HPRE.out i hi (by omega)⟩
        have HTK := Veil.mk (HTO.out _ (List.getElem_mem hlt))
        have HTAK := Veil.mk (HTA.out _ (List.getElem_mem hlt))
        obtain ⟨t, ht⟩ : ∃ t, (triesM l)[k] = t := ⟨_, rfl⟩
        rw [ht] at q0 q1 q2 q3 q4 q5 q6 q7 q8 HC8 HAP HBAD HNX HTK HTAK
        clear ht hac hC8
        have HBA := Veil.mk ((Below.refl wr.heap.size wr).alloc (Nat.le_refl _) (.cells #[.int .i64 t.f0, .int .i64 t.f1, .int .i64 t.f2, .int .i64 t.f3, .int .i64 t.f4, .int .i64 t.f5, .int .i64 t.f6, .bool t.f7, .slice A8 t.f8.length c8] 29))
        have HKA := Veil.mk (HK.out.step HBA.out)
        have HC9 := Veil.mk (Kd.C_below HC8.out HBA.out)
        have HSN : Veil (∀ W, LookAt w W w4.heap.size A c first l S cs (some ⟨g, 0, none⟩) cc k (.slice B k d) → kAcc.C W A8 t.f8.length t.f8 → Calls Try.prog 87 #[.pointer (some ⟨w4.heap.size, 0, none⟩), .agg #[.int .i64 t.f0, .int .i64 t.f1, .int .i64 t.f2, .int .i64 t.f3, .int .i64 t.f4, .int .i64 t.f5, .int .i64 t.f6, .bool t.f7, .slice A8 t.f8.length c8]] W fun e w' => e = .returned (.int .i64 (seenI (stsM first l) l t)) ∧ Below W.heap.size W w') := ⟨fun W hW hA => seen_any W w4.heap.size A c l S cs (stsM first l) t A8 c8 hW.book (Kd.C_below HC.out hW.below) HCC.out (by have := HL.out; omega) (by have h := (Kd.R_reads' hW.sts).2.2; exact h) (by rw [HSL.out, HCN.out]) (fun s hs => by rw [HSE.out s hs]; have := HFL.out; omega) hA (by have := HTAK.out; have := HL.out; omega) HTK.out⟩
        obtain ⟨x, hx⟩ : ∃ x, seenI (stsM first l) l t = x := ⟨_, rfl⟩
        rw [hx] at HBAD HNX HSN
        have HX := Veil.mk hx
        clear hx
        by_cases hx0 : x < 0
        · have m0 : decide (x < 0) = true := decide_eq_true hx0
          have HB0 := Veil.mk (HBAD.out hx0)
          clear hx0
          go_wp2_with (first | (go_at_call 87; go_must (refine (HSN.out _ HKA.out HC9.out).mono ?_; rintro ed w7 ⟨rfl, hb⟩; have HK7 := Veil.mk (HKA.out.step hb); clear hb)))
          go_ret3
          refine ⟨⟨_, _, by rw [HER.out, HB0.out, if_pos hlt]; rfl, by rw [HSO.out, HB0.out]; exact HK7.out.out, fun h => ?_, fun _ => rfl⟩, HK7.out.below⟩
          rw [HER.out, HB0.out, if_pos hlt] at h
          exact absurd h (by decide)
        · have m0 : decide (x < 0) = false := decide_eq_false hx0
          have HNX2 := Veil.mk (HNX.out hx0)
          have HUL : Veil ((seenUpTo first l k).length = k) := ⟨by unfold seenUpTo; rw [List.length_map, List.length_take]; omega⟩
          clear hx0
          go_wp2_with (first | (go_at_call 87; go_must (refine (HSN.out _ HKA.out HC9.out).mono ?_; rintro ed w7 ⟨rfl, hb⟩; have HK7 := Veil.mk (HKA.out.step hb); have HZ7 := Veil.mk HK7.out.below.size; clear hb)) | ((with_reducible refine gate_builtin (b := .append) (xs := #[.tmp 40, .tmp 42]) rfl ?_); at_builtin; go_must (refine Kd.R_append kI (w0 := w) w.heap.size rfl (.tmp 40) (.tmp 42) 70 3 (.int .i64 0) 8 rfl Try.underlying70 infoInt rfl (Nat.succ_pos 0) (Nat.succ_pos 7) (.slice B k d) (seenUpTo first l k) x _ (fun _ => True) (fun _ => False) ?hs ?hx ?hp ?hq (fun _ _ => trivial) ?ho ?hb ?hz ?hl ?_); go_must (case hs => rfl); go_must (case hx => rfl); go_must (case ho => exact HK7.out.out); go_must (case hb => exact HK7.out.below); go_must (case hz => exact HZ7.out); go_must (case hl => have := HUL.out; omega); go_must (case hq => exact fun _ h => h.elim); go_must (case hp => rfl); intro v1 w8 hR hB6 hg hat; have HK8 := Veil.mk (HAP.out w7 w8 v1 x HK7.out HX.out.symm hR hg hB6); obtain ⟨A1, c1, rfl⟩ := Kd.R_slice hR; have hln : (seenUpTo first l k ++ [x]).length = k + 1 := (by rw [List.length_append, HUL.out]; rfl); rw [hln] at HK8; rw [hln]; clear hR hB6 hg hat hln))
          exact ⟨⟨k + 1, _, _, by omega, by go_num, rfl, HK8, ⟨fun i hi hik => by have := HNX2.out i hi hik; omega⟩⟩, by simp [intOf]; omega⟩
      · as_aux_lemma =>
        have d1 : decide ((k : Int) < ((triesM l).length : Int)) = false := decide_eq_false (by omega)
        have hkk : k = (triesM l).length := by omega
        subst hkk
        have HB0 := Veil.mk (bad_none (first := first) (l := l) (fun i hi => HPRE.out i hi hi))
        go_wp2
        go_ret3
        refine ⟨⟨_, _, by rw [HER.out, HB0.out, if_neg (Nat.lt_irrefl _)]; rfl, by rw [HSO.out, HB0.out]; exact HK.out.out, fun _ => HK.out.tries, fun h => ?_⟩, HK.out.below⟩
        rw [HER.out, HB0.out, if_neg (Nat.lt_irrefl _)] at h
        exact absurd rfl h

/-- What Seen hands back; and Check. -/
def seenRes (first : List Int) (l : List Ev) : List Int := if errM first l = 0 then seenOut first l else []
def checkRes (first : List Int) (l : List Ev) : Int := if errM first l = 0 then -1 else ((seenOut first l).length : Int)
set_option maxHeartbeats 4000000 in
set_option maxRecDepth 100000 in
theorem oseen_any (w : World) (A : Option Addr) (c : Nat) (l : List Ev) (Av : Option Addr) (cv : Nat) (first : List Int) (hC : kEv.C w A l.length l) (hc : l.length ≤ c) (hl : l.length ≤ 120) (hok : ∀ e ∈ l, EvOkO e) (hF : kI.C w Av first.length first) (hfl : first.length ≤ 20) :
    Calls Try.prog 44 #[.slice Av first.length cv, .slice A l.length c] w
      fun e w' => ∃ v, e = .returned (.tuple #[v, .int .i64 (errM first l)]) ∧ kI.R 3 w' w.heap.size (fun _ => True) v (seenRes first l) ∧ Below w.heap.size w w' := by
  have HK := Veil.mk (look_any w A c l Av cv first hC hc hl hok hF hfl)
  clear hC hc hl hok hF hfl
  by_cases he : errM first l = 0
  · have m0 : (errM first l != 0) = false := by simp [he]
    have HE := Veil.mk he
    have HS : Veil (seenRes first l = if errM first l = 0 then seenOut first l else []) := ⟨rfl⟩
    clear he
    go_enter Try.func44, Try.ntmps44
    go_wp2_with (first | (go_at_call 70; go_must (refine HK.out.mono ?_; rintro ed w2 ⟨⟨v0, v1, rfl, h0, h1, h2⟩, hb⟩; have H0 := Veil.mk h0; have HB := Veil.mk hb; clear h0 h1 h2 hb)))
    go_ret2
    exact ⟨v0, rfl, by rw [HS.out, if_pos HE.out]; exact H0.out, HB.out⟩
  · have m0 : (errM first l != 0) = true := by simp [he]
    have HE := Veil.mk he
    have HS : Veil (seenRes first l = if errM first l = 0 then seenOut first l else []) := ⟨rfl⟩
    clear he
    go_enter Try.func44, Try.ntmps44
    go_wp2_with (first | (go_at_call 70; go_must (refine HK.out.mono ?_; rintro ed w2 ⟨⟨v0, v1, rfl, h0, h1, h2⟩, hb⟩; have H0 := Veil.mk h0; have HB := Veil.mk hb; clear h0 h1 h2 hb)))
    go_ret2
    exact ⟨_, rfl, by rw [HS.out, if_neg HE.out]; exact Kd.R_nil _ _ _ _ _, HB.out⟩

set_option maxHeartbeats 4000000 in
set_option maxRecDepth 100000 in
theorem check_any (w : World) (A : Option Addr) (c : Nat) (l : List Ev) (Av : Option Addr) (cv : Nat) (first : List Int) (hC : kEv.C w A l.length l) (hc : l.length ≤ c) (hl : l.length ≤ 120) (hok : ∀ e ∈ l, EvOkO e) (hF : kI.C w Av first.length first) (hfl : first.length ≤ 20) :
    Calls Try.prog 47 #[.slice Av first.length cv, .slice A l.length c] w
      fun e w' => e = .returned (.tuple #[.int .i64 (checkRes first l), .int .i64 (errM first l)]) ∧ Below w.heap.size w w' := by
  have HK := Veil.mk (look_any w A c l Av cv first hC hc hl hok hF hfl)
  clear hC hc hl hok hF hfl
  by_cases he : errM first l = 0
  · have m0 : (errM first l == 0) = true := by simp [he]
    have HE := Veil.mk he
    have HS : Veil (checkRes first l = if errM first l = 0 then -1 else ((seenOut first l).length : Int)) := ⟨rfl⟩
    clear he
    go_enter Try.func47, Try.ntmps47
    go_wp2_with (first | (go_at_call 70; go_must (refine HK.out.mono ?_; rintro ed w2 ⟨⟨v0, v1, rfl, h0, h1, h2⟩, hb⟩; obtain ⟨A0, c0, rfl⟩ := Kd.R_slice h0; have HB := Veil.mk hb; clear h0 h1 h2 hb)))
    go_ret2
    exact ⟨by rw [HS.out, if_pos HE.out]; rfl, HB.out⟩
  · have m0 : (errM first l == 0) = false := by simp [he]
    have HE := Veil.mk he
    have HS : Veil (checkRes first l = if errM first l = 0 then -1 else ((seenOut first l).length : Int)) := ⟨rfl⟩
    clear he
    go_enter Try.func47, Try.ntmps47
    go_wp2_with (first | (go_at_call 70; go_must (refine HK.out.mono ?_; rintro ed w2 ⟨⟨v0, v1, rfl, h0, h1, h2⟩, hb⟩; obtain ⟨A0, c0, rfl⟩ := Kd.R_slice h0; have HB := Veil.mk hb; clear h0 h1 h2 hb)))
    go_ret2
    exact ⟨by rw [HS.out, if_neg HE.out]; rfl, HB.out⟩
end Go.Proofs.Ytjmnbbflahacoaa.Opq
