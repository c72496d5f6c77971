/- The document's Seen, plain and walked. No condition. -/
import Derived.Test.YtjmnbbflahacoaaOpW
import Derived.Test.YtjmnbbflahacoaaRefS
import Derived.Test.YtjmnbbflahacoaaRefC
import Derived.Test.YtjmnbbflahacoaaOpensO
namespace Go.Proofs.Ytjmnbbflahacoaa.Opq
open Go.RowKit Go.Proofs.Ytjmnbbflahacoaa.Mem Go.Proofs.Ytjmnbbflahacoaa.Hist Go.Proofs.Ytjmnbbflahacoaa.Model Go.Proofs.Ytjmnbbflahacoaa.PHistTells Go.Proofs.YtjmnbbflahacoaaW.PrintWords
set_option linter.unusedVariables false
set_option linter.unusedSimpArgs false

/-- The least of the n states from top downwards that fits. -/
def downM (ss : List (List Int)) (acc : List Acc) (com : Bool) (top : Nat) : Nat → Int
  | 0 => -1
  | m + 1 => if fitsM (ss.getD (top - m) []) acc && (!com || m == 0) then ((top - m : Nat) : Int) else downM ss acc com top m
theorem down_free (ss : List (List Int)) (acc : List Acc) (top : Nat) : ∀ n, n ≤ top + 1 → downM ss acc false top n = match seenFrom ss acc n (top + 1 - n) with
    | some p => (p : Int)
    | none => -1
  | 0, _ => rfl
  | n + 1, h => by
    rw [downM, seenFrom, show top + 1 - (n + 1) = top - n by omega]
    cases hf : fitsM (ss.getD (top - n) []) acc with
    | true => simp
    | false =>
      simp only [Bool.false_and, Bool.false_eq_true, if_false]
      rw [down_free ss acc top n (by omega), show top - n + 1 = top + 1 - n by omega]
theorem down_com (ss : List (List Int)) (acc : List Acc) (top : Nat) : ∀ n, downM ss acc true top (n + 1) = match seenFrom ss acc 1 top with
    | some p => (p : Int)
    | none => -1
  | 0 => by
    rw [downM, seenFrom, seenFrom]
    simp only [Nat.sub_zero, Bool.not_true, Bool.false_or, beq_self_eq_true, Bool.and_true]
    cases hf : fitsM (ss.getD top []) acc <;> simp [downM]
  | n + 1 => by
    rw [downM]
    have : (fitsM (ss.getD (top - (n + 1)) []) acc && (!true || (n + 1) == 0)) = false := by simp
    rw [this, if_neg (by simp)]
    exact down_com ss acc top n
/-- Where a try is seen, as the document says it. -/
theorem down_seen {first : List Int} {l : List Ev} {t : Tr} (ht : t ∈ triesM l) : downM (stsM first l) t.f8 t.f7 (beforeM l (endM l t)) (beforeM l (endM l t) + 1 - beforeM l t.f4) = seenI (stsM first l) l t ∧ beforeM l t.f4 ≤ beforeM l (endM l t) := by
  have hg := (triesM_good l).1 t ht
  have h4 : aheadM l t.f4 = beforeM l t.f4 := by unfold aheadM; rw [if_neg (by have := hg.b0; omega)]
  have hto : toM l t = beforeM l (endM l t) := aheadM_end l t
  have hmono : beforeM l t.f4 ≤ beforeM l (endM l t) := by
    refine beforeM_mono l ?_
    unfold endM
    split
    · have := hg.b1; omega
    · have := triesM_btw l t ht (by omega); omega
  refine ⟨?_, hmono⟩
  unfold seenI
  rw [hto]
  cases h7 : t.f7 with
  | false =>
    have hfr : fromM l t = beforeM l t.f4 := by unfold fromM; rw [h7]; exact h4
    rw [hfr, down_free _ _ _ _ (by omega), show beforeM l (endM l t) + 1 - (beforeM l (endM l t) + 1 - beforeM l t.f4) = beforeM l t.f4 by omega]
    rfl
  | true =>
    have hfr : fromM l t = beforeM l (endM l t) := by unfold fromM; rw [h7]; exact aheadM_end l t
    obtain ⟨m, hm⟩ : ∃ m, beforeM l (endM l t) + 1 - beforeM l t.f4 = m + 1 := ⟨beforeM l (endM l t) - beforeM l t.f4, by omega⟩
    rw [hfr, hm, down_com, show beforeM l (endM l t) + 1 - beforeM l (endM l t) = 1 by omega]
    rfl
theorem before_next {l : List Ev} {i : Nat} (h : i < l.length) : beforeM l ((i + 1 : Nat) : Int) = beforeM l (i : Int) + if l[i].f0 == 5 then 1 else 0 := by
  unfold beforeM
  rw [Int.toNat_natCast, Int.toNat_natCast, List.take_succ_eq_append_getElem h, List.countP_append]
  simp only [List.countP_cons, List.countP_nil, Nat.zero_add]

set_option maxHeartbeats 4000000 in
set_option maxRecDepth 100000 in
theorem bef_any (w : World) (A : Option Addr) (c : Nat) (l : List Ev) (place : Int) (hC : kEv.C w A l.length l) (hl : l.length ≤ 1000) :
    Calls Try.prog 73 #[.slice A l.length c, .int .i64 place] w fun e w' => e = .returned (.int .i64 (beforeM l place)) ∧ Below w.heap.size w w' := by
  have HC := Veil.mk hC
  have HL := Veil.mk hl
  clear hC hl
  go_enter Try.func73, Try.ntmps73
  go_wp2_with fail
  go_loopw [5, 6] (fun v5 v6 wr => ∃ i : Nat, i ≤ l.length ∧ v6 = .int .i64 i ∧ v5 = .int .i64 (beforeM l (i : Int)) ∧ ((i : Int) ≤ place ∨ i = 0) ∧ Veil (Below w.heap.size w wr)) (fun _ v6 _ => l.length - (intOf v6).toNat)
  case atStart => exact ⟨0, Nat.zero_le _, rfl, by unfold beforeM; simp, .inr rfl, ⟨Below.refl _ _⟩⟩
  case round =>
    obtain ⟨i, hi, rfl, rfl, hip, HB⟩ := hrel
    have hll := HL.out
    by_cases hil : i < l.length
    · have d1 : decide ((i : Int) < (l.length : Int)) = true := decide_eq_true (by omega)
      have d2 : (i : Int) < (l.length : Int) := by omega
      by_cases hpl : (i : Int) < place
      · have d3 : decide ((i : Int) < place) = true := decide_eq_true hpl
        obtain ⟨ad, rfl, h0, h1, h2, h3, h4, h5, h6⟩ := ev_at (Kd.C_below HC.out HB.out) i hil
        have HN := Veil.mk (before_next hil)
        have hbl := beforeM_len l (i : Int)
        obtain ⟨b, hb⟩ : ∃ b, beforeM l (i : Int) = b := ⟨_, rfl⟩
        obtain ⟨x, hx⟩ : ∃ x, l[i].f0 = x := ⟨_, rfl⟩
        rw [hb] at HN hbl ⊢
        rw [hx] at HN h0
        clear hb hx hip
        by_cases e5 : x = 5
        · have m5 : (x == 5) = true := beq_iff_eq.2 e5
          have HQ : Veil (beforeM l ((i + 1 : Nat) : Int) = b + 1) := ⟨by rw [HN.out, m5]; rfl⟩
          clear e5
          go_wp2
          exact ⟨⟨i + 1, by omega, by go_num, by rw [HQ.out]; go_num, .inl (by omega), HB⟩, by simp [intOf]; omega⟩
        · have m5 : (x == 5) = false := beq_eq_false_iff_ne.2 e5
          have HQ : Veil (beforeM l ((i + 1 : Nat) : Int) = b) := ⟨by rw [HN.out, m5]; rfl⟩
          clear e5
          go_wp2
          exact ⟨⟨i + 1, by omega, by go_num, by rw [HQ.out], .inl (by omega), HB⟩, by simp [intOf]; omega⟩
      · have d3 : decide ((i : Int) < place) = false := decide_eq_false hpl
        have HQ : Veil (beforeM l (i : Int) = beforeM l place) := ⟨by
          rcases hip with h | h
          · rw [show place = (i : Int) by omega]
          · subst h
            unfold beforeM
            rw [show place.toNat = 0 by omega]
            simp⟩
        clear hip
        go_wp2
        go_ret
        exact ⟨by rw [HQ.out]; rfl, HB.out⟩
    · have d1 : decide ((i : Int) < (l.length : Int)) = false := decide_eq_false (by omega)
      have hil2 : i = l.length := by omega
      have HQ : Veil (beforeM l (i : Int) = beforeM l place) := ⟨by
        rcases hip with h | h
        · unfold beforeM
          rw [List.take_of_length_le (by omega), List.take_of_length_le (by omega)]
        · unfold beforeM
          rw [h, List.take_of_length_le (by omega), List.take_of_length_le (by omega)]⟩
      clear hip hil2
      go_wp2
      go_ret
      exact ⟨by rw [HQ.out]; rfl, HB.out⟩

/-- What stands in the document's Seen. -/
structure RSeen (b0 : Nat) (w wr : World) (first : List Int) (l : List Ev) (g ct : Nat) (S : Option Addr) (k : Nat) (v : Value) : Prop where
  tries0 : kRt.R 43 w b0 (fun _ => True) (.slice (some ⟨g, 0, none⟩) (triesM l).length ct) (triesM l)
  sts0 : kS.C w S (stsM first l).length (stsM first l)
  out : kI.R 3 wr w.heap.size (fun _ => True) v (seenUpTo first l k)
  below : Below w.heap.size w wr
theorem RSeen.step {b0 : Nat} {w W W' : World} {first : List Int} {l : List Ev} {g ct : Nat} {S : Option Addr} {k : Nat} {v : Value} (h : RSeen b0 w W first l g ct S k v) (hb : Below W.heap.size W W') : RSeen b0 w W' first l g ct S k v :=
  ⟨h.tries0, h.sts0, Kd.R_below h.out hb, below_of h.below hb⟩
theorem RSeen.tries {b0 : Nat} {w W : World} {first : List Int} {l : List Ev} {g ct : Nat} {S : Option Addr} {k : Nat} {v : Value} (h : RSeen b0 w W first l g ct S k v) : kRt.R 43 W b0 (fun _ => True) (.slice (some ⟨g, 0, none⟩) (triesM l).length ct) (triesM l) := Kd.R_below h.tries0 h.below
theorem RSeen.sts {b0 : Nat} {w W : World} {first : List Int} {l : List Ev} {g ct : Nat} {S : Option Addr} {k : Nat} {v : Value} (h : RSeen b0 w W first l g ct S k v) : kS.C W S (stsM first l).length (stsM first l) := Kd.C_below h.sts0 h.below
theorem RSeen.app {b0 : Nat} {w W W' : World} {first : List Int} {l : List Ev} {g ct : Nat} {S : Option Addr} {k : Nat} {v v1 : Value} {t : Tr} {z : Int} (h : RSeen b0 w W first l g ct S k v) (hn : seenUpTo first l (k + 1) = seenUpTo first l k ++ [seenI (stsM first l) l t]) (hz : seenI (stsM first l) l t = z)
    (hR : kI.R 3 W' w.heap.size (fun _ => True) v1 (seenUpTo first l k ++ [z])) (hb : Below w.heap.size w W') : RSeen b0 w W' first l g ct S (k + 1) v1 :=
  ⟨h.tries0, h.sts0, by rw [hn, hz]; exact hR, hb⟩

set_option maxHeartbeats 40000000 in
set_option maxRecDepth 100000 in
theorem refseen_any (w : World) (A : Option Addr) (c : Nat) (l : List Ev) (Av : Option Addr) (cv : Nat) (first : List Int) (hC : kEv.C w A l.length l) (hc : l.length ≤ c) (hl : l.length ≤ 120) (hF : kI.C w Av first.length first) (hcv : first.length ≤ cv) (hfl : first.length ≤ 20) (hlow : ∀ ad, Av = some ad → first ≠ [] → ad.block < w.heap.size) :
    Calls Try.prog 46 #[.slice Av first.length cv, .slice A l.length c] w
      fun e w' => ∃ v, e = .returned (.tuple #[v, .int .i64 (errM first l)]) ∧ kI.R 3 w' w.heap.size (fun _ => True) v (seenOut first l) ∧ Below w.heap.size w w' := by
  have HR := Veil.mk (refright_any w A c l hC hc (by omega))
  have HT := Veil.mk (fun (W : World) (h : Below w.heap.size w W) => reftries_any W A c l (Kd.C_below hC h) (by omega))
  have HST := Veil.mk (fun (W : World) (h : Below w.heap.size w W) => refstates_any W A c l Av cv first (Kd.C_below hC h) hc (by omega) (Kd.C_below hF h) hcv (by omega) (fun ad h1 h2 => Nat.lt_of_lt_of_le (hlow ad h1 h2) h.size))
  have HBE := Veil.mk (fun (W : World) (h : Below w.heap.size w W) (p : Int) => bef_any W A c l p (Kd.C_below hC h) (by omega))
  have HL := Veil.mk hl
  have HFL := Veil.mk hfl
  have hl1 : l.length ≤ 120 := hl
  clear hC hc hl hF hcv hfl hlow
  cases hr : rightM l with
  | false =>
    have HE : Veil (errM first l = 3 ∧ seenOut first l = []) := ⟨by unfold errM seenOut; rw [hr]; exact ⟨rfl, rfl⟩⟩
    rw [hr] at HR
    clear hr
    go_enter Try.func46, Try.ntmps46
    go_wp2_with (first | (go_at_call 24; go_must (refine HR.out.mono ?_; rintro ed w2 ⟨rfl, hb⟩; have HB2 := Veil.mk hb; clear hb)))
    go_ret2
    exact ⟨_, by rw [HE.out.1]; rfl, by rw [HE.out.2]; exact Kd.R_nil _ _ _ _ _, HB2.out⟩
  | true =>
    have HTL : Veil ((triesM l).length ≤ 120) := ⟨Nat.le_trans (triesM_len l) hl1⟩
    have HSL := Veil.mk (stsM_length first l)
    have HCN := Veil.mk (commitsM_length l hr)
    have HSE := Veil.mk (stsM_each first l)
    have HTA := Veil.mk (triesM_acc l)
    have HER : Veil (errM first l = if badM first l < (triesM l).length then 7 else 0) := ⟨by unfold errM; rw [hr]; rfl⟩
    have HSO : Veil (seenOut first l = seenUpTo first l (badM first l)) := ⟨by unfold seenOut; rw [hr]; rfl⟩
    have HRT := Veil.mk (rtries_of_right hr)
    rw [hr] at HR
    rw [HRT.out] at HT
    have HBM : Veil (beforeM l l.length ≤ 120) := ⟨by have := beforeM_len l l.length; omega⟩
    clear hr HRT
    go_enter Try.func46, Try.ntmps46
    go_wp2_with (first | (go_at_call 24; go_must (refine HR.out.mono ?_; rintro ed w2 ⟨rfl, hb⟩; have HB2 := Veil.mk hb; clear hb)) | (go_at_call 32; go_must (refine (HST.out _ HB2.out).mono ?_; rintro ed w3 ⟨S, cs, rfl, _, hS, hb⟩; have HS3 := Veil.mk hS; have HB3 := Veil.mk (below_of HB2.out hb); clear hb hS)) | (go_at_call 26; go_must (refine (HT.out _ HB3.out).mono ?_; rintro ed w4 ⟨v, rfl, hv, hb⟩; have HV4 := Veil.mk hv; have HS4 := Veil.mk (Kd.C_below HS3.out hb); have HB4 := Veil.mk (below_of HB3.out hb); clear hb hv)))
    by_cases htz : (triesM l).length = 0
    · have d0 : decide ((0 : Int) < ((triesM l).length : Int)) = false := decide_eq_false (by omega)
      obtain ⟨T, ct, rfl, _, _⟩ := Kd.R_reads HV4.out
      have HQ : Veil (errM first l = 0 ∧ seenOut first l = []) := ⟨by
        have h0 : triesM l = [] := List.length_eq_zero_iff.1 htz
        rw [HER.out, if_neg (by omega), HSO.out]
        unfold seenUpTo
        rw [h0]
        exact ⟨rfl, by simp⟩⟩
      have htz2 : ((triesM l).length : Int) = 0 := by omega
      clear HER HSO
      go_loopw [8, 9] (fun v8 v9 wr => v9 = .int .i64 0 ∧ v8 = .slice none 0 0 ∧ Veil (Below w.heap.size w wr)) (fun _ _ _ => 0)
      case atStart => exact ⟨rfl, rfl, HB4⟩
      case round =>
        obtain ⟨rfl, rfl, HB⟩ := hrel
        go_wp2
        go_ret2
        exact ⟨_, by rw [HQ.out.1]; rfl, by rw [HQ.out.2]; exact Kd.R_nil _ _ _ _ _, HB.out⟩
    · obtain ⟨g, ct, rfl, _, _, _⟩ := Kd.R_form HV4.out (by omega)
      have HR0 : Veil (RSeen w3.heap.size w4 w4 first l g ct S 0 (.slice none 0 0)) := ⟨⟨HV4.out, HS4.out, Kd.R_nil _ _ _ _ _, Below.refl _ _⟩⟩
      clear htz HV4 HS4 HS3
      go_loopw [8, 9] (fun v8 v9 wr => ∃ (i : Nat) (B : Option Addr) (d : Nat), i ≤ (triesM l).length ∧ v9 = .int .i64 i ∧ v8 = .slice B i d ∧ Veil (RSeen w3.heap.size w4 wr first l g ct S i (.slice B i d)) ∧ Veil (∀ j, (hj : j < (triesM l).length) → j < i → ¬ seenI (stsM first l) l (triesM l)[j] < 0)) (fun _ v9 _ => (triesM l).length - (intOf v9).toNat)
      case atStart => exact ⟨0, none, 0, Nat.zero_le _, rfl, rfl, HR0, ⟨fun j _ hj => absurd hj (Nat.not_lt_zero _)⟩⟩
      case round =>
        obtain ⟨i, B, d, hi, rfl, rfl, HK, HPRE⟩ := hrel
        have htl := HTL.out
        by_cases hil : i < (triesM l).length
        · as_aux_lemma =>
          have d1 : decide ((i : Int) < ((triesM l).length : Int)) = true := decide_eq_true (by omega)
          have d2 : (i : Int) < ((triesM l).length : Int) := by omega
          obtain ⟨g', n', c', A8, c8, hve, hC8, q0, q1, q2, q3, q4, q5, q6, q7, q8⟩ := rt_full HK.out.tries i hil
          injection hve with e1 e2 e3
          injection e1 with e1
          injection e1 with e1 _ _
          subst e1 e2 e3
          have HC8 := Veil.mk hC8
          have HBAD := Veil.mk (fun h => bad_at (first := first) hil HPRE.out h)
          have HNX : Veil (¬ seenI (stsM first l) l (triesM l)[i] < 0 → ∀ j, (hj : j < (triesM l).length) → j < i + 1 → ¬ seenI (stsM first l) l (triesM l)[j] < 0) := ⟨fun h j hj hji => by
            by_cases hje : j = i
            · subst hje; exact h
            · exact HPRE.out j hj (by omega)⟩
          have HTAK := Veil.mk (HTA.out _ (List.getElem_mem hil))
          have HUN := Veil.mk (seenUpTo_next first l hil)
          have hdn := down_seen (first := first) (List.getElem_mem hil)
          have HFULL : Veil (∀ W, Below wr.heap.size wr W → ∃ A8' c8', kAcc.C W A8' (triesM l)[i].f8.length (triesM l)[i].f8 ∧ A8' = A8 ∧ c8' = c8) := ⟨fun W h => ⟨A8, c8, Kd.C_below HC8.out h, rfl, rfl⟩⟩
          obtain ⟨t, ht⟩ : ∃ t, (triesM l)[i] = t := ⟨_, rfl⟩
          rw [ht] at q0 q1 q2 q3 q4 q5 q6 q7 q8 HC8 HBAD HNX HTAK HUN hdn
          clear ht hC8 HFULL
          obtain ⟨bB, hbB⟩ : ∃ n, beforeM l t.f4 = n := ⟨_, rfl⟩
          obtain ⟨bE, hbE⟩ : ∃ n, beforeM l (endM l t) = n := ⟨_, rfl⟩
          have HB1 : Veil (∀ W, Below w.heap.size w W → Calls Try.prog 73 #[.slice A l.length c, .int .i64 t.f4] W fun e w' => e = .returned (.int .i64 (bB : Int)) ∧ Below W.heap.size W w') := ⟨fun W h => by rw [← hbB]; exact HBE.out W h t.f4⟩
          have HB2' : Veil (∀ W, Below w.heap.size w W → Calls Try.prog 73 #[.slice A l.length c, .int .i64 (endM l t)] W fun e w' => e = .returned (.int .i64 (bE : Int)) ∧ Below W.heap.size W w') := ⟨fun W h => by rw [← hbE]; exact HBE.out W h _⟩
          rw [hbB, hbE] at hdn
          have hbl : bE ≤ 120 := by rw [← hbE]; have := beforeM_most l (endM l t); have := HBM.out; omega
          have hbs : bE < (stsM first l).length := by rw [HSL.out, HCN.out, ← hbE]; have := beforeM_most l (endM l t); omega
          have HDN := Veil.mk hdn.1
          have hbe := hdn.2
          clear hbB hbE hdn
          obtain ⟨en, hen⟩ : ∃ n, endM l t = n := ⟨_, rfl⟩
          have HEN : Veil (en = if t.f5 < 0 then (l.length : Int) else t.f5) := ⟨by rw [← hen]; rfl⟩
          rw [hen] at HB2'
          clear hen
          have HFT := Veil.mk (fun (W : World) (h : Below wr.heap.size wr W) (vs : List Int) (Ak : Option Addr) (ck : Nat) (hv : kI.C W Ak vs.length vs) (hvl : vs.length ≤ 1000000) => reffits_any W Ak ck vs t A8 c8 hv hvl (Kd.C_below HC8.out h) (by have := HTAK.out; omega))
          have HQQ := Veil.mk (And.intro q0 (And.intro q1 (And.intro q2 (And.intro q3 (And.intro q4 (And.intro q5 (And.intro q6 (And.intro q7 q8))))))))
          have HKEEP : Veil (∀ (W : World) (o : Addr) (v : Value), Below wr.heap.size wr W → wr.cell? o = some v → W.cell? o = some v) := ⟨fun W o v h hv => (h.cell (p := o) (World.block_lt_of_cell? wr _ hv)).trans hv⟩
          have hwr := Below.refl wr.heap.size wr
          have HSS : Veil (∀ (W : World) (k : Nat), RSeen w3.heap.size w4 W first l g ct S i (.slice B i d) → k < (stsM first l).length → ∃ sd Ak ck, S = some sd ∧ W.cell? (sd.add k) = some (.slice Ak ((stsM first l).getD k []).length ck) ∧ kI.C W Ak ((stsM first l).getD k []).length ((stsM first l).getD k []) ∧ ((stsM first l).getD k []).length ≤ 1000000) := ⟨fun W k h hk => by
            obtain ⟨sd, Ak, ck, h1, h2, _, h3⟩ := sts_at h.sts k hk
            have hg : (stsM first l).getD k [] = (stsM first l)[k] := by rw [List.getD_eq_getElem?_getD, List.getElem?_eq_getElem hk]; rfl
            rw [hg]
            exact ⟨sd, Ak, ck, h1, h2, h3, by rw [HSE.out _ (List.getElem_mem hk)]; have := HFL.out; omega⟩⟩
          have HDM : Veil (∀ m, downM (stsM first l) t.f8 t.f7 bE (m + 1) = if fitsM ((stsM first l).getD (bE - m) []) t.f8 && (!t.f7 || m == 0) then ((bE - m : Nat) : Int) else downM (stsM first l) t.f8 t.f7 bE m) := ⟨fun m => rfl⟩
          have HD0 : Veil (downM (stsM first l) t.f8 t.f7 bE 0 = -1) := ⟨rfl⟩
          obtain ⟨ss, hss⟩ : ∃ ss, stsM first l = ss := ⟨_, rfl⟩
          have HXX : Veil (seenI (stsM first l) l t = downM (stsM first l) t.f8 t.f7 bE (bE + 1 - bB)) := ⟨HDN.out.symm⟩
          clear HC8 HBE q0 q1 q2 q3 q4 q6 q7 q8 hss HDN
          obtain ⟨dn, hdn⟩ : ∃ dn : Nat → Int, (fun m => downM (stsM first l) t.f8 t.f7 bE m) = dn := ⟨_, rfl⟩
          have HDE : Veil (∀ m, downM (stsM first l) t.f8 t.f7 bE m = dn m) := ⟨fun m => congrFun hdn m⟩
          clear hdn
          have HDM2 : Veil (∀ m, dn (m + 1) = if fitsM ((stsM first l).getD (bE - m) []) t.f8 && (!t.f7 || m == 0) then ((bE - m : Nat) : Int) else dn m) := ⟨fun m => by rw [← HDE.out, ← HDE.out]; exact HDM.out m⟩
          have HD02 : Veil (dn 0 = -1) := ⟨by rw [← HDE.out]; exact HD0.out⟩
          have HX2 : Veil (seenI (stsM first l) l t = dn (bE + 1 - bB)) := ⟨by rw [← HDE.out]; exact HXX.out⟩
          clear HDM HD0 HXX HDE
          have hen : (t.f5 < 0 ∧ en = (l.length : Int)) ∨ (¬ t.f5 < 0 ∧ en = t.f5) := by
            have h := HEN.out
            by_cases h5 : t.f5 < 0
            · rw [if_pos h5] at h; exact .inl ⟨h5, h⟩
            · rw [if_neg h5] at h; exact .inr ⟨h5, h⟩
          clear HEN
          rcases hen with ⟨h5, rfl⟩ | ⟨h5, rfl⟩
          all_goals
            first
              | have m5 : decide (t.f5 < 0) = true := decide_eq_true (by assumption)
              | have m5 : decide (t.f5 < 0) = false := decide_eq_false (by assumption)
            clear h5
            go_wp2_with (first | (go_at_call 73; go_must (refine (HB2'.out _ (below_of HB4.out HK.out.below)).mono ?_; rintro ed w5 ⟨rfl, hb⟩; have HB5 := Veil.mk hb; have HK5 := Veil.mk (HK.out.step hb); clear hb)))
            clear q5 m5
            go_loopw [11, 12] (fun v11 v12 wq => ∃ (m : Nat) (x : Int), m ≤ bE + 1 - bB ∧ x = (bE : Int) - m ∧ v12 = .int .i64 x ∧ v11 = .int .i64 (dn m) ∧ Veil (Below w5.heap.size w5 wq)) (fun _ v12 _ => (intOf v12 + 1).toNat)
            case atStart => exact ⟨0, bE, Nat.zero_le _, by omega, rfl, by rw [HD02.out], ⟨Below.refl _ _⟩⟩
            case round =>
              obtain ⟨m, x, hm, hx, rfl, rfl, HW5⟩ := hrel
              have HW := Veil.mk (HB5.out.trans (HW5.out.mono HB5.out.size))
              have HKW := Veil.mk (HK.out.step HW.out)
              have q4 := HKEEP.out _ _ _ HW.out HQQ.out.2.2.2.2.1
              by_cases hmb : m < bE + 1 - bB
              · as_aux_lemma =>
                obtain ⟨k, rfl⟩ : ∃ k : Nat, x = (k : Int) := ⟨bE - m, by omega⟩
                have hkm : bE - m = k := by omega
                have hkb : bB ≤ k := by omega
                have hk120 : k ≤ 120 := by omega
                have d3 : decide ((bB : Int) ≤ (k : Int)) = true := decide_eq_true (by omega)
                have d4 : decide (bB ≤ k) = true := decide_eq_true hkb
                have hks : k < (stsM first l).length := by omega
                have hks2 : (k : Int) < ((stsM first l).length : Int) := by omega
                have HDK := Veil.mk (HDM2.out m)
                rw [hkm] at HDK
                have HMK : Veil (m = 0 ↔ k = bE) := ⟨by omega⟩
                have HXN : Veil ((k : Int) - 1 = (bE : Int) - ((m + 1 : Nat) : Int)) := ⟨by omega⟩
                have HMB : Veil (m + 1 ≤ bE + 1 - bB) := ⟨by omega⟩
                clear hkm hx
                obtain ⟨sd, Ak, ck, rfl, s0, hCk, hlk⟩ := HSS.out _ k HKW.out hks
                have HFT2 := Veil.mk (fun (W : World) (h : Below wr.heap.size wr W) => HFT.out W (HW.out.trans (h.mono HW.out.size)) ((stsM first l).getD k []) Ak ck (Kd.C_below hCk h) hlk)
                obtain ⟨sk, hsk⟩ : ∃ s, (stsM first l).getD k [] = s := ⟨_, rfl⟩
                rw [hsk] at s0 HFT2 HDK
                clear hsk hCk hlk HFT
                obtain ⟨q0, q1, q2, q3, _, q5, q6, q7, q8⟩ := HQQ.out
                have hHW := HW.out
                replace q0 := HKEEP.out _ _ _ hHW q0
                replace q1 := HKEEP.out _ _ _ hHW q1
                replace q2 := HKEEP.out _ _ _ hHW q2
                replace q3 := HKEEP.out _ _ _ hHW q3
                replace q5 := HKEEP.out _ _ _ hHW q5
                replace q6 := HKEEP.out _ _ _ hHW q6
                replace q7 := HKEEP.out _ _ _ hHW q7
                replace q8 := HKEEP.out _ _ _ hHW q8
                clear hHW
                go_wp2_with (first | (go_at_call 73; go_must (refine (HB1.out _ (below_of HB4.out HKW.out.below)).mono ?_; rintro ed w6 ⟨rfl, hb⟩; have HB6 := Veil.mk hb; have HK6 := Veil.mk (HKW.out.step hb); clear hb)))
                have eC : ∀ o v, wr.cell? o = some v → w6.cell? o = some v := fun o v hv => (HB6.out.cell (p := o) (World.block_lt_of_cell? wr _ hv)).trans hv
                replace s0 := eC _ _ s0
                replace q0 := eC _ _ q0
                replace q1 := eC _ _ q1
                replace q2 := eC _ _ q2
                replace q3 := eC _ _ q3
                replace q4 := eC _ _ q4
                replace q5 := eC _ _ q5
                replace q6 := eC _ _ q6
                replace q7 := eC _ _ q7
                replace q8 := eC _ _ q8
                clear eC
                refine wp_region_X (fun w' => w'.cell? (sd.add k) = some (.slice (Ak) sk.length ck) ∧ w'.cell? ⟨g, i * 9, none⟩ = some (.int .i64 t.f0) ∧ w'.cell? ⟨g, i * 9 + 1, none⟩ = some (.int .i64 t.f1) ∧ w'.cell? ⟨g, i * 9 + 2, none⟩ = some (.int .i64 t.f2) ∧ w'.cell? ⟨g, i * 9 + 3, none⟩ = some (.int .i64 t.f3) ∧ w'.cell? ⟨g, i * 9 + 4, none⟩ = some (.int .i64 t.f4) ∧ w'.cell? ⟨g, i * 9 + 5, none⟩ = some (.int .i64 t.f5) ∧ w'.cell? ⟨g, i * 9 + 6, none⟩ = some (.int .i64 t.f6) ∧ w'.cell? ⟨g, i * 9 + 7, none⟩ = some (.bool t.f7) ∧ w'.cell? ⟨g, i * 9 + 8, none⟩ = some (.slice A8 t.f8.length c8)) [] (by kernel_rfl) ?_
                have hS0 := And.intro s0 (And.intro q0 (And.intro q1 (And.intro q2 (And.intro q3 (And.intro q4 (And.intro q5 (And.intro q6 (And.intro q7 q8))))))))
                refine wpAnyX_take3 (i := 0) (v := ?_) rfl (by kernel_rfl) (by kernel_rfl) (by kernel_rfl) (by kernel_rfl) (fun _ _ _ h => h) (Or.inl ⟨by rfl, ?_⟩) (by assumption) ?_
                rotate_left 1
                · intro w hSw; (try dsimp only at hSw); go_split_ands; (first | (go_simp; done) | (go_simp; with_reducible rfl))
                try simp only [Act.put, List.getElem_toArray, List.getElem_cons_zero, List.getElem_cons_succ, List.setIfInBounds_toArray, List.set_cons_zero, List.set_cons_succ]
                refine wpAnyX_take3 (i := 1) (v := ?_) rfl (by kernel_rfl) (by kernel_rfl) (by kernel_rfl) (by kernel_rfl) (fun _ _ _ h => h) (Or.inl ⟨by rfl, ?_⟩) (by assumption) ?_
                rotate_left 1
                · intro w hSw; (try dsimp only at hSw); go_split_ands; (first | (go_simp; done) | (go_simp; with_reducible rfl))
                try simp only [Act.put, List.getElem_toArray, List.getElem_cons_zero, List.getElem_cons_succ, List.setIfInBounds_toArray, List.set_cons_zero, List.set_cons_succ]
                refine wpAnyX_take3 (i := 2) (v := ?_) rfl (by kernel_rfl) (by kernel_rfl) (by kernel_rfl) (by kernel_rfl) (fun _ _ _ h => h) (Or.inl ⟨by rfl, ?_⟩) (by assumption) ?_
                rotate_left 1
                · intro w hSw; (try dsimp only at hSw); go_split_ands; (first | (go_simp; done) | (go_simp; with_reducible rfl))
                try simp only [Act.put, List.getElem_toArray, List.getElem_cons_zero, List.getElem_cons_succ, List.setIfInBounds_toArray, List.set_cons_zero, List.set_cons_succ]
                refine wpAnyX_take3 (i := 3) (v := ?_) rfl (by kernel_rfl) (by kernel_rfl) (by kernel_rfl) (by kernel_rfl) (fun _ _ _ h => h) (Or.inl ⟨by rfl, ?_⟩) (by assumption) ?_
                rotate_left 1
                · intro w hSw; (try dsimp only at hSw); go_split_ands; (first | (go_simp; done) | (go_simp; with_reducible rfl))
                try simp only [Act.put, List.getElem_toArray, List.getElem_cons_zero, List.getElem_cons_succ, List.setIfInBounds_toArray, List.set_cons_zero, List.set_cons_succ]
                refine wpAnyX_take3 (i := 4) (v := ?_) rfl (by kernel_rfl) (by kernel_rfl) (by kernel_rfl) (by kernel_rfl) (fun _ _ _ h => h) (Or.inl ⟨by rfl, ?_⟩) (by assumption) ?_
                rotate_left 1
                · intro w hSw; (try dsimp only at hSw); go_split_ands; (first | (go_simp; done) | (go_simp; with_reducible rfl))
                try simp only [Act.put, List.getElem_toArray, List.getElem_cons_zero, List.getElem_cons_succ, List.setIfInBounds_toArray, List.set_cons_zero, List.set_cons_succ]
                refine wpAnyX_take3 (i := 5) (v := ?_) rfl (by kernel_rfl) (by kernel_rfl) (by kernel_rfl) (by kernel_rfl) (fun _ _ _ h => h) (Or.inl ⟨by rfl, ?_⟩) (by assumption) ?_
                rotate_left 1
                · intro w hSw; (try dsimp only at hSw); go_split_ands; (first | (go_simp; done) | (go_simp; with_reducible rfl))
                try simp only [Act.put, List.getElem_toArray, List.getElem_cons_zero, List.getElem_cons_succ, List.setIfInBounds_toArray, List.set_cons_zero, List.set_cons_succ]
                refine wpAnyX_take3 (i := 6) (v := ?_) rfl (by kernel_rfl) (by kernel_rfl) (by kernel_rfl) (by kernel_rfl) (fun _ _ _ h => h) (Or.inl ⟨by rfl, ?_⟩) (by assumption) ?_
                rotate_left 1
                · intro w hSw; (try dsimp only at hSw); go_split_ands; (first | (go_simp; done) | (go_simp; with_reducible rfl))
                try simp only [Act.put, List.getElem_toArray, List.getElem_cons_zero, List.getElem_cons_succ, List.setIfInBounds_toArray, List.set_cons_zero, List.set_cons_succ]
                refine wpAnyX_take3 (i := 7) (v := ?_) rfl (by kernel_rfl) (by kernel_rfl) (by kernel_rfl) (by kernel_rfl) (fun _ _ _ h => h) (Or.inl ⟨by rfl, ?_⟩) (by assumption) ?_
                rotate_left 1
                · intro w hSw; (try dsimp only at hSw); go_split_ands; (first | (go_simp; done) | (go_simp; with_reducible rfl))
                try simp only [Act.put, List.getElem_toArray, List.getElem_cons_zero, List.getElem_cons_succ, List.setIfInBounds_toArray, List.set_cons_zero, List.set_cons_succ]
                clear hS0
                have HX0 := Veil.mk (Below.refl w6.heap.size w6).drew
                refine wpAnyX_one (i := 8) (by kernel_rfl) rfl (fun K hK => ?_)
                go_simp
                refine (HFT2.out _ (below_of HB6.out HX0.out)).mono ?_
                rintro e1 w7 ⟨rfl, hb7⟩
                have HX7 := Veil.mk (HX0.out.trans hb7)
                have eC : ∀ o v, w6.cell? o = some v → w7.cell? o = some v := fun o v hv => (HX7.out.cell (p := o) (World.block_lt_of_cell? w6 _ hv)).trans hv
                have hS7 := (And.intro (eC _ _ s0) (And.intro (eC _ _ q0) (And.intro (eC _ _ q1) (And.intro (eC _ _ q2) (And.intro (eC _ _ q3) (And.intro (eC _ _ q4) (And.intro (eC _ _ q5) (And.intro (eC _ _ q6) (And.intro (eC _ _ q7) (eC _ _ q8))))))))))
                clear hb7 eC
                dsimp only
                refine hK.out _ _ (fun _ => hS7) ?_
                clear hK K
                try simp only [Act.put, List.getElem_toArray, List.getElem_cons_zero, List.getElem_cons_succ, List.setIfInBounds_toArray, List.set_cons_zero, List.set_cons_succ]
                cases hf : fitsM sk t.f8 with
                | false =>
                  have HDQ : Veil (dn (m + 1) = dn m) := ⟨by rw [HDK.out, hf]; rfl⟩
                  clear hf HDK
                  refine wpAnyX_take3 (i := 9) (v := ?_) rfl (by kernel_rfl) (by kernel_rfl) (by kernel_rfl) (by kernel_rfl) (fun _ _ _ h => h) (Or.inl ⟨by rfl, ?_⟩) (by assumption) ?_
                  rotate_left 1
                  · intro w hSw; (try dsimp only at hSw); go_split_ands; (first | (go_simp; done) | (go_simp; with_reducible rfl))
                  try simp only [Act.put, List.getElem_toArray, List.getElem_cons_zero, List.getElem_cons_succ, List.setIfInBounds_toArray, List.set_cons_zero, List.set_cons_succ]
                  refine wpAnyX_take3 (i := 10) (v := undef) rfl (by kernel_rfl) (by kernel_rfl) (by kernel_rfl) (by kernel_rfl) (fun _ _ _ h => h) (Or.inr ⟨by rfl, rfl⟩) (by assumption) ?_
                  try simp only [Act.put, List.getElem_toArray, List.getElem_cons_zero, List.getElem_cons_succ, List.setIfInBounds_toArray, List.set_cons_zero, List.set_cons_succ]
                  refine wpAnyX_take3 (i := 11) (v := undef) rfl (by kernel_rfl) (by kernel_rfl) (by kernel_rfl) (by kernel_rfl) (fun _ _ _ h => h) (Or.inr ⟨by rfl, rfl⟩) (by assumption) ?_
                  try simp only [Act.put, List.getElem_toArray, List.getElem_cons_zero, List.getElem_cons_succ, List.setIfInBounds_toArray, List.set_cons_zero, List.set_cons_succ]
                  refine wpAnyX_take3 (i := 12) (v := undef) rfl (by kernel_rfl) (by kernel_rfl) (by kernel_rfl) (by kernel_rfl) (fun _ _ _ h => h) (Or.inr ⟨by rfl, rfl⟩) (by assumption) ?_
                  try simp only [Act.put, List.getElem_toArray, List.getElem_cons_zero, List.getElem_cons_succ, List.setIfInBounds_toArray, List.set_cons_zero, List.set_cons_succ]
                  refine wpAnyX_take3 (i := 13) (v := undef) rfl (by kernel_rfl) (by kernel_rfl) (by kernel_rfl) (by kernel_rfl) (fun _ _ _ h => h) (Or.inr ⟨by rfl, rfl⟩) (by assumption) ?_
                  try simp only [Act.put, List.getElem_toArray, List.getElem_cons_zero, List.getElem_cons_succ, List.setIfInBounds_toArray, List.set_cons_zero, List.set_cons_succ]
                  refine wpAnyX_take3 (i := 14) (v := undef) rfl (by kernel_rfl) (by kernel_rfl) (by kernel_rfl) (by kernel_rfl) (fun _ _ _ h => h) (Or.inr ⟨by rfl, rfl⟩) (by assumption) ?_
                  try simp only [Act.put, List.getElem_toArray, List.getElem_cons_zero, List.getElem_cons_succ, List.setIfInBounds_toArray, List.set_cons_zero, List.set_cons_succ]
                  refine wpAnyX_take3 (i := 15) (v := undef) rfl (by kernel_rfl) (by kernel_rfl) (by kernel_rfl) (by kernel_rfl) (fun _ _ _ h => h) (Or.inr ⟨by rfl, rfl⟩) (by assumption) ?_
                  try simp only [Act.put, List.getElem_toArray, List.getElem_cons_zero, List.getElem_cons_succ, List.setIfInBounds_toArray, List.set_cons_zero, List.set_cons_succ]
                  refine wpAnyX_take3 (i := 16) (v := undef) rfl (by kernel_rfl) (by kernel_rfl) (by kernel_rfl) (by kernel_rfl) (fun _ _ _ h => h) (Or.inr ⟨by rfl, rfl⟩) (by assumption) ?_
                  try simp only [Act.put, List.getElem_toArray, List.getElem_cons_zero, List.getElem_cons_succ, List.setIfInBounds_toArray, List.set_cons_zero, List.set_cons_succ]
                  refine wpAnyX_take3 (i := 17) (v := undef) rfl (by kernel_rfl) (by kernel_rfl) (by kernel_rfl) (by kernel_rfl) (fun _ _ _ h => h) (Or.inr ⟨by rfl, rfl⟩) (by assumption) ?_
                  try simp only [Act.put, List.getElem_toArray, List.getElem_cons_zero, List.getElem_cons_succ, List.setIfInBounds_toArray, List.set_cons_zero, List.set_cons_succ]
                  refine wpAnyX_take3 (i := 18) (v := undef) rfl (by kernel_rfl) (by kernel_rfl) (by kernel_rfl) (by kernel_rfl) (fun _ _ _ h => h) (Or.inr ⟨by rfl, rfl⟩) (by assumption) ?_
                  try simp only [Act.put, List.getElem_toArray, List.getElem_cons_zero, List.getElem_cons_succ, List.setIfInBounds_toArray, List.set_cons_zero, List.set_cons_succ]
                  refine wpAnyX_take3 (i := 19) (v := undef) rfl (by kernel_rfl) (by kernel_rfl) (by kernel_rfl) (by kernel_rfl) (fun _ _ _ h => h) (Or.inr ⟨by rfl, rfl⟩) (by assumption) ?_
                  try simp only [Act.put, List.getElem_toArray, List.getElem_cons_zero, List.getElem_cons_succ, List.setIfInBounds_toArray, List.set_cons_zero, List.set_cons_succ]
                  refine wpAnyX_take3 (i := 20) (v := undef) rfl (by kernel_rfl) (by kernel_rfl) (by kernel_rfl) (by kernel_rfl) (fun _ _ _ h => h) (Or.inr ⟨by rfl, rfl⟩) (by assumption) ?_
                  try simp only [Act.put, List.getElem_toArray, List.getElem_cons_zero, List.getElem_cons_succ, List.setIfInBounds_toArray, List.set_cons_zero, List.set_cons_succ]
                  refine wpAnyX_take3 (i := 21) (v := undef) rfl (by kernel_rfl) (by kernel_rfl) (by kernel_rfl) (by kernel_rfl) (fun _ _ _ h => h) (Or.inr ⟨by rfl, rfl⟩) (by assumption) ?_
                  try simp only [Act.put, List.getElem_toArray, List.getElem_cons_zero, List.getElem_cons_succ, List.setIfInBounds_toArray, List.set_cons_zero, List.set_cons_succ]
                  refine wpAnyX_take3 (i := 22) (v := undef) rfl (by kernel_rfl) (by kernel_rfl) (by kernel_rfl) (by kernel_rfl) (fun _ _ _ h => h) (Or.inr ⟨by rfl, rfl⟩) (by assumption) ?_
                  try simp only [Act.put, List.getElem_toArray, List.getElem_cons_zero, List.getElem_cons_succ, List.setIfInBounds_toArray, List.set_cons_zero, List.set_cons_succ]
                  refine wpAnyX_take3 (i := 23) (v := ?_) rfl (by kernel_rfl) (by kernel_rfl) (by kernel_rfl) (by kernel_rfl) (fun _ _ _ h => h) (Or.inl ⟨by rfl, ?_⟩) (by assumption) ?_
                  rotate_left 1
                  · intro w hSw; (try dsimp only at hSw); go_split_ands; (first | (go_simp; done) | (go_simp; with_reducible rfl))
                  try simp only [Act.put, List.getElem_toArray, List.getElem_cons_zero, List.getElem_cons_succ, List.setIfInBounds_toArray, List.set_cons_zero, List.set_cons_succ]
                  clear hS7
                  refine wpAnyX_done (by kernel_rfl) ?_ _
                  try simp only [Act.put, List.getElem_toArray, List.getElem_cons_zero, List.getElem_cons_succ, List.setIfInBounds_toArray, List.set_cons_zero, List.set_cons_succ]
                  clear s0 q0 q1 q2 q3 q4 q5 q6 q7 q8
                  have HWN := Veil.mk (HW5.out.trans ((HB6.out.trans (HX7.out.mono HB6.out.size)).mono HW5.out.size))
                  go_wp2
                  exact ⟨⟨m + 1, (k : Int) - 1, HMB.out, HXN.out, rfl, by rw [HDQ.out], HWN⟩, by first | (simp [intOf]; done) | (simp [intOf]; omega)⟩
                | true =>
                  cases h7 : t.f7 with
                  | false =>
                    have HDQ : Veil (dn (m + 1) = (k : Int)) := ⟨by rw [HDK.out, hf, h7]; rfl⟩
                    rw [h7] at hS7 q7
                    clear hf h7 HDK
                    refine wpAnyX_take3 (i := 9) (v := ?_) rfl (by kernel_rfl) (by kernel_rfl) (by kernel_rfl) (by kernel_rfl) (fun _ _ _ h => h) (Or.inl ⟨by rfl, ?_⟩) (by assumption) ?_
                    rotate_left 1
                    · intro w hSw; (try dsimp only at hSw); go_split_ands; (first | (go_simp; done) | (go_simp; with_reducible rfl))
                    try simp only [Act.put, List.getElem_toArray, List.getElem_cons_zero, List.getElem_cons_succ, List.setIfInBounds_toArray, List.set_cons_zero, List.set_cons_succ]
                    refine wpAnyX_take3 (i := 10) (v := ?_) rfl (by kernel_rfl) (by kernel_rfl) (by kernel_rfl) (by kernel_rfl) (fun _ _ _ h => h) (Or.inl ⟨by rfl, ?_⟩) (by assumption) ?_
                    rotate_left 1
                    · intro w hSw; (try dsimp only at hSw); go_split_ands; (first | (go_simp; done) | (go_simp; with_reducible rfl))
                    try simp only [Act.put, List.getElem_toArray, List.getElem_cons_zero, List.getElem_cons_succ, List.setIfInBounds_toArray, List.set_cons_zero, List.set_cons_succ]
                    refine wpAnyX_take3 (i := 11) (v := ?_) rfl (by kernel_rfl) (by kernel_rfl) (by kernel_rfl) (by kernel_rfl) (fun _ _ _ h => h) (Or.inl ⟨by rfl, ?_⟩) (by assumption) ?_
                    rotate_left 1
                    · intro w hSw; (try dsimp only at hSw); go_split_ands; (first | (go_simp; done) | (go_simp; with_reducible rfl))
                    try simp only [Act.put, List.getElem_toArray, List.getElem_cons_zero, List.getElem_cons_succ, List.setIfInBounds_toArray, List.set_cons_zero, List.set_cons_succ]
                    refine wpAnyX_take3 (i := 12) (v := ?_) rfl (by kernel_rfl) (by kernel_rfl) (by kernel_rfl) (by kernel_rfl) (fun _ _ _ h => h) (Or.inl ⟨by rfl, ?_⟩) (by assumption) ?_
                    rotate_left 1
                    · intro w hSw; (try dsimp only at hSw); go_split_ands; (first | (go_simp; done) | (go_simp; with_reducible rfl))
                    try simp only [Act.put, List.getElem_toArray, List.getElem_cons_zero, List.getElem_cons_succ, List.setIfInBounds_toArray, List.set_cons_zero, List.set_cons_succ]
                    refine wpAnyX_take3 (i := 13) (v := ?_) rfl (by kernel_rfl) (by kernel_rfl) (by kernel_rfl) (by kernel_rfl) (fun _ _ _ h => h) (Or.inl ⟨by rfl, ?_⟩) (by assumption) ?_
                    rotate_left 1
                    · intro w hSw; (try dsimp only at hSw); go_split_ands; (first | (go_simp; done) | (go_simp; with_reducible rfl))
                    try simp only [Act.put, List.getElem_toArray, List.getElem_cons_zero, List.getElem_cons_succ, List.setIfInBounds_toArray, List.set_cons_zero, List.set_cons_succ]
                    refine wpAnyX_take3 (i := 14) (v := ?_) rfl (by kernel_rfl) (by kernel_rfl) (by kernel_rfl) (by kernel_rfl) (fun _ _ _ h => h) (Or.inl ⟨by rfl, ?_⟩) (by assumption) ?_
                    rotate_left 1
                    · intro w hSw; (try dsimp only at hSw); go_split_ands; (first | (go_simp; done) | (go_simp; with_reducible rfl))
                    try simp only [Act.put, List.getElem_toArray, List.getElem_cons_zero, List.getElem_cons_succ, List.setIfInBounds_toArray, List.set_cons_zero, List.set_cons_succ]
                    refine wpAnyX_take3 (i := 15) (v := ?_) rfl (by kernel_rfl) (by kernel_rfl) (by kernel_rfl) (by kernel_rfl) (fun _ _ _ h => h) (Or.inl ⟨by rfl, ?_⟩) (by assumption) ?_
                    rotate_left 1
                    · intro w hSw; (try dsimp only at hSw); go_split_ands; (first | (go_simp; done) | (go_simp; with_reducible rfl))
                    try simp only [Act.put, List.getElem_toArray, List.getElem_cons_zero, List.getElem_cons_succ, List.setIfInBounds_toArray, List.set_cons_zero, List.set_cons_succ]
                    refine wpAnyX_take3 (i := 16) (v := ?_) rfl (by kernel_rfl) (by kernel_rfl) (by kernel_rfl) (by kernel_rfl) (fun _ _ _ h => h) (Or.inl ⟨by rfl, ?_⟩) (by assumption) ?_
                    rotate_left 1
                    · intro w hSw; (try dsimp only at hSw); go_split_ands; (first | (go_simp; done) | (go_simp; with_reducible rfl))
                    try simp only [Act.put, List.getElem_toArray, List.getElem_cons_zero, List.getElem_cons_succ, List.setIfInBounds_toArray, List.set_cons_zero, List.set_cons_succ]
                    refine wpAnyX_take3 (i := 17) (v := undef) rfl (by kernel_rfl) (by kernel_rfl) (by kernel_rfl) (by kernel_rfl) (fun _ _ _ h => h) (Or.inr ⟨by rfl, rfl⟩) (by assumption) ?_
                    try simp only [Act.put, List.getElem_toArray, List.getElem_cons_zero, List.getElem_cons_succ, List.setIfInBounds_toArray, List.set_cons_zero, List.set_cons_succ]
                    refine wpAnyX_take3 (i := 18) (v := undef) rfl (by kernel_rfl) (by kernel_rfl) (by kernel_rfl) (by kernel_rfl) (fun _ _ _ h => h) (Or.inr ⟨by rfl, rfl⟩) (by assumption) ?_
                    try simp only [Act.put, List.getElem_toArray, List.getElem_cons_zero, List.getElem_cons_succ, List.setIfInBounds_toArray, List.set_cons_zero, List.set_cons_succ]
                    refine wpAnyX_take3 (i := 19) (v := undef) rfl (by kernel_rfl) (by kernel_rfl) (by kernel_rfl) (by kernel_rfl) (fun _ _ _ h => h) (Or.inr ⟨by rfl, rfl⟩) (by assumption) ?_
                    try simp only [Act.put, List.getElem_toArray, List.getElem_cons_zero, List.getElem_cons_succ, List.setIfInBounds_toArray, List.set_cons_zero, List.set_cons_succ]
                    refine wpAnyX_take3 (i := 20) (v := undef) rfl (by kernel_rfl) (by kernel_rfl) (by kernel_rfl) (by kernel_rfl) (fun _ _ _ h => h) (Or.inr ⟨by rfl, rfl⟩) (by assumption) ?_
                    try simp only [Act.put, List.getElem_toArray, List.getElem_cons_zero, List.getElem_cons_succ, List.setIfInBounds_toArray, List.set_cons_zero, List.set_cons_succ]
                    refine wpAnyX_take3 (i := 21) (v := undef) rfl (by kernel_rfl) (by kernel_rfl) (by kernel_rfl) (by kernel_rfl) (fun _ _ _ h => h) (Or.inr ⟨by rfl, rfl⟩) (by assumption) ?_
                    try simp only [Act.put, List.getElem_toArray, List.getElem_cons_zero, List.getElem_cons_succ, List.setIfInBounds_toArray, List.set_cons_zero, List.set_cons_succ]
                    refine wpAnyX_take3 (i := 22) (v := ?_) rfl (by kernel_rfl) (by kernel_rfl) (by kernel_rfl) (by kernel_rfl) (fun _ _ _ h => h) (Or.inl ⟨by rfl, ?_⟩) (by assumption) ?_
                    rotate_left 1
                    · intro w hSw; (try dsimp only at hSw); go_split_ands; (first | (go_simp; done) | (go_simp; with_reducible rfl))
                    try simp only [Act.put, List.getElem_toArray, List.getElem_cons_zero, List.getElem_cons_succ, List.setIfInBounds_toArray, List.set_cons_zero, List.set_cons_succ]
                    refine wpAnyX_take3 (i := 23) (v := ?_) rfl (by kernel_rfl) (by kernel_rfl) (by kernel_rfl) (by kernel_rfl) (fun _ _ _ h => h) (Or.inl ⟨by rfl, ?_⟩) (by assumption) ?_
                    rotate_left 1
                    · intro w hSw; (try dsimp only at hSw); go_split_ands; (first | (go_simp; done) | (go_simp; with_reducible rfl))
                    try simp only [Act.put, List.getElem_toArray, List.getElem_cons_zero, List.getElem_cons_succ, List.setIfInBounds_toArray, List.set_cons_zero, List.set_cons_succ]
                    clear hS7
                    refine wpAnyX_done (by kernel_rfl) ?_ _
                    try simp only [Act.put, List.getElem_toArray, List.getElem_cons_zero, List.getElem_cons_succ, List.setIfInBounds_toArray, List.set_cons_zero, List.set_cons_succ]
                    clear s0 q0 q1 q2 q3 q4 q5 q6 q7 q8
                    have HWN := Veil.mk (HW5.out.trans ((HB6.out.trans (HX7.out.mono HB6.out.size)).mono HW5.out.size))
                    go_wp2
                    exact ⟨⟨m + 1, (k : Int) - 1, HMB.out, HXN.out, rfl, by rw [HDQ.out], HWN⟩, by first | (simp [intOf]; done) | (simp [intOf]; omega)⟩
                  | true =>
                    rw [h7] at hS7 q7
                    have HDQ0 : Veil (dn (m + 1) = if m == 0 then (k : Int) else dn m) := ⟨by rw [HDK.out, hf, h7]; rfl⟩
                    clear hf h7 HDK
                    refine wpAnyX_take3 (i := 9) (v := ?_) rfl (by kernel_rfl) (by kernel_rfl) (by kernel_rfl) (by kernel_rfl) (fun _ _ _ h => h) (Or.inl ⟨by rfl, ?_⟩) (by assumption) ?_
                    rotate_left 1
                    · intro w hSw; (try dsimp only at hSw); go_split_ands; (first | (go_simp; done) | (go_simp; with_reducible rfl))
                    try simp only [Act.put, List.getElem_toArray, List.getElem_cons_zero, List.getElem_cons_succ, List.setIfInBounds_toArray, List.set_cons_zero, List.set_cons_succ]
                    refine wpAnyX_take3 (i := 10) (v := ?_) rfl (by kernel_rfl) (by kernel_rfl) (by kernel_rfl) (by kernel_rfl) (fun _ _ _ h => h) (Or.inl ⟨by rfl, ?_⟩) (by assumption) ?_
                    rotate_left 1
                    · intro w hSw; (try dsimp only at hSw); go_split_ands; (first | (go_simp; done) | (go_simp; with_reducible rfl))
                    try simp only [Act.put, List.getElem_toArray, List.getElem_cons_zero, List.getElem_cons_succ, List.setIfInBounds_toArray, List.set_cons_zero, List.set_cons_succ]
                    refine wpAnyX_take3 (i := 11) (v := ?_) rfl (by kernel_rfl) (by kernel_rfl) (by kernel_rfl) (by kernel_rfl) (fun _ _ _ h => h) (Or.inl ⟨by rfl, ?_⟩) (by assumption) ?_
                    rotate_left 1
                    · intro w hSw; (try dsimp only at hSw); go_split_ands; (first | (go_simp; done) | (go_simp; with_reducible rfl))
                    try simp only [Act.put, List.getElem_toArray, List.getElem_cons_zero, List.getElem_cons_succ, List.setIfInBounds_toArray, List.set_cons_zero, List.set_cons_succ]
                    refine wpAnyX_take3 (i := 12) (v := ?_) rfl (by kernel_rfl) (by kernel_rfl) (by kernel_rfl) (by kernel_rfl) (fun _ _ _ h => h) (Or.inl ⟨by rfl, ?_⟩) (by assumption) ?_
                    rotate_left 1
                    · intro w hSw; (try dsimp only at hSw); go_split_ands; (first | (go_simp; done) | (go_simp; with_reducible rfl))
                    try simp only [Act.put, List.getElem_toArray, List.getElem_cons_zero, List.getElem_cons_succ, List.setIfInBounds_toArray, List.set_cons_zero, List.set_cons_succ]
                    refine wpAnyX_take3 (i := 13) (v := ?_) rfl (by kernel_rfl) (by kernel_rfl) (by kernel_rfl) (by kernel_rfl) (fun _ _ _ h => h) (Or.inl ⟨by rfl, ?_⟩) (by assumption) ?_
                    rotate_left 1
                    · intro w hSw; (try dsimp only at hSw); go_split_ands; (first | (go_simp; done) | (go_simp; with_reducible rfl))
                    try simp only [Act.put, List.getElem_toArray, List.getElem_cons_zero, List.getElem_cons_succ, List.setIfInBounds_toArray, List.set_cons_zero, List.set_cons_succ]
                    refine wpAnyX_take3 (i := 14) (v := ?_) rfl (by kernel_rfl) (by kernel_rfl) (by kernel_rfl) (by kernel_rfl) (fun _ _ _ h => h) (Or.inl ⟨by rfl, ?_⟩) (by assumption) ?_
                    rotate_left 1
                    · intro w hSw; (try dsimp only at hSw); go_split_ands; (first | (go_simp; done) | (go_simp; with_reducible rfl))
                    try simp only [Act.put, List.getElem_toArray, List.getElem_cons_zero, List.getElem_cons_succ, List.setIfInBounds_toArray, List.set_cons_zero, List.set_cons_succ]
                    refine wpAnyX_take3 (i := 15) (v := ?_) rfl (by kernel_rfl) (by kernel_rfl) (by kernel_rfl) (by kernel_rfl) (fun _ _ _ h => h) (Or.inl ⟨by rfl, ?_⟩) (by assumption) ?_
                    rotate_left 1
                    · intro w hSw; (try dsimp only at hSw); go_split_ands; (first | (go_simp; done) | (go_simp; with_reducible rfl))
                    try simp only [Act.put, List.getElem_toArray, List.getElem_cons_zero, List.getElem_cons_succ, List.setIfInBounds_toArray, List.set_cons_zero, List.set_cons_succ]
                    refine wpAnyX_take3 (i := 16) (v := ?_) rfl (by kernel_rfl) (by kernel_rfl) (by kernel_rfl) (by kernel_rfl) (fun _ _ _ h => h) (Or.inl ⟨by rfl, ?_⟩) (by assumption) ?_
                    rotate_left 1
                    · intro w hSw; (try dsimp only at hSw); go_split_ands; (first | (go_simp; done) | (go_simp; with_reducible rfl))
                    try simp only [Act.put, List.getElem_toArray, List.getElem_cons_zero, List.getElem_cons_succ, List.setIfInBounds_toArray, List.set_cons_zero, List.set_cons_succ]
                    refine wpAnyX_take3 (i := 17) (v := ?_) rfl (by kernel_rfl) (by kernel_rfl) (by kernel_rfl) (by kernel_rfl) (fun _ _ _ h => h) (Or.inl ⟨by rfl, ?_⟩) (by assumption) ?_
                    rotate_left 1
                    · intro w hSw; (try dsimp only at hSw); go_split_ands; (first | (go_simp; done) | (go_simp; with_reducible rfl))
                    try simp only [Act.put, List.getElem_toArray, List.getElem_cons_zero, List.getElem_cons_succ, List.setIfInBounds_toArray, List.set_cons_zero, List.set_cons_succ]
                    refine wpAnyX_take3 (i := 18) (v := ?_) rfl (by kernel_rfl) (by kernel_rfl) (by kernel_rfl) (by kernel_rfl) (fun _ _ _ h => h) (Or.inl ⟨by rfl, ?_⟩) (by assumption) ?_
                    rotate_left 1
                    · intro w hSw; (try dsimp only at hSw); go_split_ands; (first | (go_simp; done) | (go_simp; with_reducible rfl))
                    try simp only [Act.put, List.getElem_toArray, List.getElem_cons_zero, List.getElem_cons_succ, List.setIfInBounds_toArray, List.set_cons_zero, List.set_cons_succ]
                    refine wpAnyX_take3 (i := 19) (v := ?_) rfl (by kernel_rfl) (by kernel_rfl) (by kernel_rfl) (by kernel_rfl) (fun _ _ _ h => h) (Or.inl ⟨by rfl, ?_⟩) (by assumption) ?_
                    rotate_left 1
                    · intro w hSw; (try dsimp only at hSw); go_split_ands; (first | (go_simp; done) | (go_simp; with_reducible rfl))
                    try simp only [Act.put, List.getElem_toArray, List.getElem_cons_zero, List.getElem_cons_succ, List.setIfInBounds_toArray, List.set_cons_zero, List.set_cons_succ]
                    clear hS7
                    refine wpAnyX_one (i := 20) (by kernel_rfl) rfl (fun K hK => ?_)
                    go_simp
                    refine (HB2'.out _ (below_of HB4.out (below_of HK6.out.below HX7.out))).mono ?_
                    rintro e1 w8 ⟨rfl, hb8⟩
                    have HX8 := Veil.mk (HX7.out.trans (hb8.mono HX7.out.size))
                    have eC : ∀ o v, w6.cell? o = some v → w8.cell? o = some v := fun o v hv => (HX8.out.cell (p := o) (World.block_lt_of_cell? w6 _ hv)).trans hv
                    have hS8 := (And.intro (eC _ _ s0) (And.intro (eC _ _ q0) (And.intro (eC _ _ q1) (And.intro (eC _ _ q2) (And.intro (eC _ _ q3) (And.intro (eC _ _ q4) (And.intro (eC _ _ q5) (And.intro (eC _ _ q6) (And.intro (eC _ _ q7) (eC _ _ q8))))))))))
                    clear hb8 eC
                    dsimp only
                    refine hK.out _ _ (fun _ => hS8) ?_
                    clear hK K
                    try simp only [Act.put, List.getElem_toArray, List.getElem_cons_zero, List.getElem_cons_succ, List.setIfInBounds_toArray, List.set_cons_zero, List.set_cons_succ]
                    by_cases hm0 : m = 0
                    · have m6 : ((k : Int) == (bE : Int)) = true := beq_iff_eq.2 (by have := HMK.out.1 hm0; omega)
                      have HDQ : Veil (dn (m + 1) = (k : Int)) := ⟨by rw [HDQ0.out, hm0]; rfl⟩
                      clear hm0 HDQ0 HMK
                      refine wpAnyX_take3 (i := 21) (v := ?_) rfl (by kernel_rfl) (by kernel_rfl) (by kernel_rfl) (by kernel_rfl) (fun _ _ _ h => h) (Or.inl ⟨by rfl, ?_⟩) (by assumption) ?_
                      rotate_left 1
                      · intro w hSw; (try dsimp only at hSw); go_split_ands; (first | (go_simp; done) | (go_simp; with_reducible rfl))
                      try simp only [Act.put, List.getElem_toArray, List.getElem_cons_zero, List.getElem_cons_succ, List.setIfInBounds_toArray, List.set_cons_zero, List.set_cons_succ]
                      refine wpAnyX_take3 (i := 22) (v := ?_) rfl (by kernel_rfl) (by kernel_rfl) (by kernel_rfl) (by kernel_rfl) (fun _ _ _ h => h) (Or.inl ⟨by rfl, ?_⟩) (by assumption) ?_
                      rotate_left 1
                      · intro w hSw; (try dsimp only at hSw); go_split_ands; (first | (go_simp; done) | (go_simp; with_reducible rfl))
                      try simp only [Act.put, List.getElem_toArray, List.getElem_cons_zero, List.getElem_cons_succ, List.setIfInBounds_toArray, List.set_cons_zero, List.set_cons_succ]
                      refine wpAnyX_take3 (i := 23) (v := ?_) rfl (by kernel_rfl) (by kernel_rfl) (by kernel_rfl) (by kernel_rfl) (fun _ _ _ h => h) (Or.inl ⟨by rfl, ?_⟩) (by assumption) ?_
                      rotate_left 1
                      · intro w hSw; (try dsimp only at hSw); go_split_ands; (first | (go_simp; done) | (go_simp; with_reducible rfl))
                      try simp only [Act.put, List.getElem_toArray, List.getElem_cons_zero, List.getElem_cons_succ, List.setIfInBounds_toArray, List.set_cons_zero, List.set_cons_succ]
                      clear hS8
                      refine wpAnyX_done (by kernel_rfl) ?_ _
                      try simp only [Act.put, List.getElem_toArray, List.getElem_cons_zero, List.getElem_cons_succ, List.setIfInBounds_toArray, List.set_cons_zero, List.set_cons_succ]
                      clear s0 q0 q1 q2 q3 q4 q5 q6 q7 q8
                      have HWN := Veil.mk (HW5.out.trans ((HB6.out.trans (HX8.out.mono HB6.out.size)).mono HW5.out.size))
                      go_wp2
                      exact ⟨⟨m + 1, (k : Int) - 1, HMB.out, HXN.out, rfl, by rw [HDQ.out], HWN⟩, by first | (simp [intOf]; done) | (simp [intOf]; omega)⟩
                    · have m6 : ((k : Int) == (bE : Int)) = false := beq_eq_false_iff_ne.2 (fun h => hm0 (HMK.out.2 (by omega)))
                      have HDQ : Veil (dn (m + 1) = dn m) := ⟨by rw [HDQ0.out]; simp [hm0]⟩
                      clear hm0 HDQ0 HMK
                      refine wpAnyX_take3 (i := 21) (v := ?_) rfl (by kernel_rfl) (by kernel_rfl) (by kernel_rfl) (by kernel_rfl) (fun _ _ _ h => h) (Or.inl ⟨by rfl, ?_⟩) (by assumption) ?_
                      rotate_left 1
                      · intro w hSw; (try dsimp only at hSw); go_split_ands; (first | (go_simp; done) | (go_simp; with_reducible rfl))
                      try simp only [Act.put, List.getElem_toArray, List.getElem_cons_zero, List.getElem_cons_succ, List.setIfInBounds_toArray, List.set_cons_zero, List.set_cons_succ]
                      refine wpAnyX_take3 (i := 22) (v := ?_) rfl (by kernel_rfl) (by kernel_rfl) (by kernel_rfl) (by kernel_rfl) (fun _ _ _ h => h) (Or.inl ⟨by rfl, ?_⟩) (by assumption) ?_
                      rotate_left 1
                      · intro w hSw; (try dsimp only at hSw); go_split_ands; (first | (go_simp; done) | (go_simp; with_reducible rfl))
                      try simp only [Act.put, List.getElem_toArray, List.getElem_cons_zero, List.getElem_cons_succ, List.setIfInBounds_toArray, List.set_cons_zero, List.set_cons_succ]
                      refine wpAnyX_take3 (i := 23) (v := ?_) rfl (by kernel_rfl) (by kernel_rfl) (by kernel_rfl) (by kernel_rfl) (fun _ _ _ h => h) (Or.inl ⟨by rfl, ?_⟩) (by assumption) ?_
                      rotate_left 1
                      · intro w hSw; (try dsimp only at hSw); go_split_ands; (first | (go_simp; done) | (go_simp; with_reducible rfl))
                      try simp only [Act.put, List.getElem_toArray, List.getElem_cons_zero, List.getElem_cons_succ, List.setIfInBounds_toArray, List.set_cons_zero, List.set_cons_succ]
                      clear hS8
                      refine wpAnyX_done (by kernel_rfl) ?_ _
                      try simp only [Act.put, List.getElem_toArray, List.getElem_cons_zero, List.getElem_cons_succ, List.setIfInBounds_toArray, List.set_cons_zero, List.set_cons_succ]
                      clear s0 q0 q1 q2 q3 q4 q5 q6 q7 q8
                      have HWN := Veil.mk (HW5.out.trans ((HB6.out.trans (HX8.out.mono HB6.out.size)).mono HW5.out.size))
                      go_wp2
                      exact ⟨⟨m + 1, (k : Int) - 1, HMB.out, HXN.out, rfl, by rw [HDQ.out], HWN⟩, by first | (simp [intOf]; done) | (simp [intOf]; omega)⟩
              · as_aux_lemma =>
                have hmm : m = bE + 1 - bB := by omega
                have hxb : x < (bB : Int) := by omega
                have d3 : decide ((bB : Int) ≤ x) = false := decide_eq_false (by omega)
                have HSX : Veil (seenI (stsM first l) l t = dn m) := ⟨by rw [hmm]; exact HX2.out⟩
                clear hmm hx
                obtain ⟨z, hz⟩ : ∃ z, dn m = z := ⟨_, rfl⟩
                rw [hz] at HSX ⊢
                clear hz
                by_cases hz0 : z < 0
                · have m0 : decide (z < 0) = true := decide_eq_true hz0
                  have HB0 := Veil.mk (HBAD.out (by rw [HSX.out]; exact hz0))
                  clear hz0
                  go_wp2_with (first | (go_at_call 73; go_must (refine (HB1.out _ (below_of HB4.out HKW.out.below)).mono ?_; rintro ed w6 ⟨rfl, hb⟩; have HK6 := Veil.mk (HKW.out.step hb); clear hb)))
                  go_ret2
                  exact ⟨_, by rw [HER.out, HB0.out, if_pos hil]; rfl, by rw [HSO.out, HB0.out]; exact Kd.R_lower HK6.out.out HB4.out.size, below_of HB4.out HK6.out.below⟩
                · have m0 : decide (z < 0) = false := decide_eq_false hz0
                  have HNX2 := Veil.mk (HNX.out (by rw [HSX.out]; omega))
                  have HUL : Veil ((seenUpTo first l i).length = i) := ⟨by unfold seenUpTo; rw [List.length_map, List.length_take]; omega⟩
                  have HZ5 := HKW.out.below.size
                  clear hz0
                  go_wp2_with (first | (go_at_call 73; go_must (refine (HB1.out _ (below_of HB4.out HKW.out.below)).mono ?_; rintro ed w6 ⟨rfl, hb⟩; have HK6 := Veil.mk (HKW.out.step hb); have HZ6 := Veil.mk HK6.out.below.size; clear hb)) | ((with_reducible refine gate_builtin (b := .append) (xs := #[.tmp 78, .tmp 80]) rfl ?_); at_builtin; go_must (refine Kd.R_append kI (w0 := w4) w4.heap.size rfl (.tmp 78) (.tmp 80) 70 3 (.int .i64 0) 8 rfl Try.underlying70 infoInt rfl (Nat.succ_pos 0) (Nat.succ_pos 7) (.slice B i d) (seenUpTo first l i) z _ (fun _ => True) (fun _ => False) ?hs ?hx ?hp ?hq (fun _ _ => trivial) ?ho ?hb ?hz ?hl ?_); go_must (case hs => rfl); go_must (case hx => rfl); go_must (case ho => exact HK6.out.out); go_must (case hb => exact HK6.out.below); go_must (case hz => exact HZ6.out); go_must (case hl => have := HUL.out; omega); go_must (case hq => exact fun _ h => h.elim); go_must (case hp => rfl); intro v1 w8 hR hB6 hg hat; have HK8 := Veil.mk (HK6.out.app HUN.out HSX.out hR hB6); obtain ⟨A1, c1, rfl⟩ := Kd.R_slice hR; have hln : (seenUpTo first l i ++ [z]).length = i + 1 := (by rw [List.length_append, HUL.out]; rfl); rw [hln] at HK8; rw [hln]; clear hR hB6 hg hat hln))
                  exact ⟨⟨i + 1, _, _, by omega, by go_num, rfl, HK8, ⟨fun j hj hji => by have := HNX2.out j hj hji; omega⟩⟩, by simp [intOf]; omega⟩
        · as_aux_lemma =>
          have d1 : decide ((i : Int) < ((triesM l).length : Int)) = false := decide_eq_false (by omega)
          have hkk : i = (triesM l).length := by omega
          subst hkk
          have HB0 := Veil.mk (bad_none (first := first) (l := l) (fun j hj => HPRE.out j hj hj))
          go_wp2
          go_ret2
          exact ⟨_, by rw [HER.out, HB0.out, if_neg (Nat.lt_irrefl _)]; rfl, by rw [HSO.out, HB0.out]; exact Kd.R_lower HK.out.out HB4.out.size, below_of HB4.out HK.out.below⟩
end Go.Proofs.Ytjmnbbflahacoaa.Opq
/- The document's Order, plain and walked. No condition. -/
namespace Go.Proofs.Ytjmnbbflahacoaa.Opq
open Go.RowKit Go.Proofs.Ytjmnbbflahacoaa.Mem Go.Proofs.Ytjmnbbflahacoaa.Hist Go.Proofs.Ytjmnbbflahacoaa.Model Go.Proofs.Ytjmnbbflahacoaa.PHistTells Go.Proofs.YtjmnbbflahacoaaW.PrintWords
set_option linter.unusedVariables false
set_option linter.unusedSimpArgs false

/-- The things of a rank. -/
def pickT (first : List Int) (l : List Ev) (r i : Nat) : List Th := ((List.range i).filter (fun j => (rankM first l j).1 == (r : Int))).map (rankM first l)
def upT (first : List Int) (l : List Ev) (r : Nat) : List Th := (List.range r).flatMap (fun r => pickT first l r (triesM l).length)
theorem rank_num (first : List Int) (l : List Ev) (i : Nat) : (rankM first l i).2 = (i : Int) := by unfold rankM; split <;> rfl
theorem pickT_next (first : List Int) (l : List Ev) (r i : Nat) : pickT first l r (i + 1) = pickT first l r i ++ (if (rankM first l i).1 == (r : Int) then [rankM first l i] else []) := by
  unfold pickT
  rw [List.range_succ, List.filter_append, List.map_append]
  congr 1
  rw [List.filter_cons]
  split <;> rfl
theorem upT_next (first : List Int) (l : List Ev) (r : Nat) : upT first l (r + 1) = upT first l r ++ pickT first l r (triesM l).length := by
  unfold upT
  rw [List.range_succ, List.flatMap_append]
  simp
theorem mem_pickT {first : List Int} {l : List Ev} {r i : Nat} {z : Th} (h : z ∈ pickT first l r i) : z.1 = (r : Int) ∧ ∃ j, j < i ∧ z = rankM first l j := by
  unfold pickT at h
  obtain ⟨j, hj, rfl⟩ := List.mem_map.1 h
  have := List.mem_filter.1 hj
  exact ⟨by simpa using this.2, j, by simpa using this.1, rfl⟩
def ltS (a b : Th) : Prop := a.1 < b.1 ∨ (a.1 = b.1 ∧ a.2 < b.2)
theorem upT_sorted (first : List Int) (l : List Ev) (R : Nat) : (upT first l R).Pairwise ltS := by
  unfold upT
  rw [List.flatMap_def, List.pairwise_flatten]
  refine ⟨fun m hm => ?_, ?_⟩
  · obtain ⟨r, _, rfl⟩ := List.mem_map.1 hm
    unfold pickT
    rw [List.pairwise_map]
    refine List.Pairwise.imp_of_mem (R := fun (a b : Nat) => a < b) (fun {i j} hi hj hij => ?_) (List.pairwise_lt_range.filter _)
    have h1 := (List.mem_filter.1 hi).2
    have h2 := (List.mem_filter.1 hj).2
    simp only [beq_iff_eq] at h1 h2
    refine .inr ⟨by rw [h1, h2], ?_⟩
    rw [rank_num, rank_num]
    omega
  · rw [List.pairwise_map]
    refine List.Pairwise.imp_of_mem (R := fun (a b : Nat) => a < b) (fun {r s} _ _ hrs => ?_) List.pairwise_lt_range
    intro a ha b hb
    have h1 := (mem_pickT ha).1
    have h2 := (mem_pickT hb).1
    exact .inl (by omega)
theorem upT_order {first : List Int} {l : List Ev} (hs : ∀ t ∈ triesM l, 0 ≤ seenI (stsM first l) l t) (hm : ∀ t ∈ triesM l, seenI (stsM first l) l t ≤ (triesM l).length) : OrderOf first l (upT first l (2 * (triesM l).length + 2)) := by
  have hst := upT_sorted first l (2 * (triesM l).length + 2)
  refine ⟨?_, hst.imp (fun {a b} h => by unfold ltS at h; unfold leT; omega)⟩
  have hn : (upT first l (2 * (triesM l).length + 2)).Nodup := hst.imp (fun {a b} h he => by subst he; unfold ltS at h; omega)
  refine (List.perm_ext_iff_of_nodup hn (ranks_nodup first l _)).2 (fun z => ⟨fun hz => ?_, fun hz => ?_⟩)
  · unfold upT at hz
    obtain ⟨r, _, hz⟩ := List.mem_flatMap.1 hz
    obtain ⟨_, j, hj, rfl⟩ := mem_pickT hz
    exact List.mem_map.2 ⟨j, by simpa using hj, rfl⟩
  · obtain ⟨j, hj, rfl⟩ := List.mem_map.1 hz
    have hjl : j < (triesM l).length := by simpa using hj
    have he := rankM_at (first := first) (List.getElem?_eq_getElem hjl)
    have h0 := hs _ (List.getElem_mem hjl)
    have h1 := hm _ (List.getElem_mem hjl)
    obtain ⟨r, hr⟩ : ∃ r : Nat, (rankM first l j).1 = (r : Int) := ⟨(rankM first l j).1.toNat, by rw [he]; simp only; split <;> omega⟩
    have hrl : r < 2 * (triesM l).length + 2 := by
      rw [he] at hr
      simp only at hr
      split at hr <;> omega
    unfold upT
    refine List.mem_flatMap.2 ⟨r, by simpa using hrl, ?_⟩
    unfold pickT
    exact List.mem_map.2 ⟨j, List.mem_filter.2 ⟨by simpa using hjl, by rw [hr]; simp⟩, rfl⟩
theorem seen_tries {first : List Int} {l : List Ev} (hr : rightM l = true) {t : Tr} (ht : t ∈ triesM l) (h0 : 0 ≤ seenI (stsM first l) l t) : seenI (stsM first l) l t ≤ (triesM l).length := by
  have h1 := (within_one ht h0).2.1
  have h2 := beforeM_most l (endM l t)
  have h3 := committed_count hr
  have h4 := List.length_filter_le (fun t : Tr => t.f7) (triesM l)
  omega

theorem pickT_len (first : List Int) (l : List Ev) (r i : Nat) : (pickT first l r i).length ≤ i := by
  unfold pickT
  rw [List.length_map]
  exact Nat.le_trans (List.length_filter_le _ _) (by simp)
theorem upT_len (first : List Int) (l : List Ev) : ∀ r, (upT first l r).length ≤ r * (triesM l).length
  | 0 => by simp [upT]
  | r + 1 => by
    rw [upT_next, List.length_append, Nat.succ_mul]
    have h1 := upT_len first l r
    have h2 := pickT_len first l r (triesM l).length
    omega
/-- What stands in the document's Order. -/
structure ROrd (b0 : Nat) (w wr : World) (first : List Int) (l : List Ev) (T : Option Addr) (ct : Nat) (P : Option Addr) (v : Value) (xs : List Th) : Prop where
  tries0 : kRt.R 43 w b0 (fun _ => True) (.slice T (triesM l).length ct) (triesM l)
  p0 : kI.C w P (triesM l).length ((triesM l).map (seenI (stsM first l) l))
  out : kI.R 3 wr w.heap.size (fun _ => True) v (xs.map (·.2))
  below : Below w.heap.size w wr
theorem ROrd.at {b0 : Nat} {w wr : World} {first : List Int} {l : List Ev} {T : Option Addr} {ct : Nat} {P : Option Addr} {v : Value} {xs : List Th} (h : ROrd b0 w wr first l T ct P v xs) (i : Nat) (hi : i < (triesM l).length) :
    ∃ ap g, P = some ap ∧ T = some ⟨g, 0, none⟩ ∧ wr.cell? (ap.add i) = some (.int .i64 (seenI (stsM first l) l (triesM l)[i])) ∧ wr.cell? ⟨g, i * 9 + 7, none⟩ = some (.bool (triesM l)[i].f7) := by
  have hp : kI.C wr P ((triesM l).map (seenI (stsM first l) l)).length ((triesM l).map (seenI (stsM first l) l)) := by rw [List.length_map]; exact Kd.C_below h.p0 h.below
  obtain ⟨ap, rfl, x0⟩ := int_at hp i (by rw [List.length_map]; exact hi)
  rw [List.getElem_map] at x0
  obtain ⟨g, n, c, A8, c8, hv, _, _, _, _, _, _, _, _, q7, _⟩ := rt_full (Kd.R_below h.tries0 h.below) i hi
  injection hv with e1 _ _
  exact ⟨ap, g, rfl, e1, x0, q7⟩

set_option maxHeartbeats 16000000 in
set_option maxRecDepth 100000 in
theorem reforder_any (w : World) (A : Option Addr) (c : Nat) (l : List Ev) (Av : Option Addr) (cv : Nat) (first : List Int) (hC : kEv.C w A l.length l) (hc : l.length ≤ c) (hl : l.length ≤ 120) (hF : kI.C w Av first.length first) (hcv : first.length ≤ cv) (hfl : first.length ≤ 20) (hlow : ∀ ad, Av = some ad → first ≠ [] → ad.block < w.heap.size) (he : errM first l = 0) :
    Calls Try.prog 49 #[.slice Av first.length cv, .slice A l.length c] w
      fun e w' => ∃ v, e = .returned v ∧ kI.R 3 w' w.heap.size (fun _ => True) v ((upT first l (2 * (triesM l).length + 2)).map (·.2)) ∧ Below w.heap.size w w' := by
  have HS := Veil.mk (refseen_any w A c l Av cv first hC hc hl hF hcv hfl hlow)
  have hr := (bad_of_ok he).1
  have hso := seenOut_ok he
  have HT := Veil.mk (fun (W : World) (h : Below w.heap.size w W) => reftries_any W A c l (Kd.C_below hC h) (by omega))
  rw [rtries_of_right hr] at HT
  rw [he, hso.1] at HS
  have HSM := Veil.mk hso.2
  have HST := Veil.mk (fun t ht => seen_tries (first := first) hr (t := t) ht (hso.2 t ht))
  have htl : (triesM l).length ≤ 120 := Nat.le_trans (triesM_len l) hl
  have HTL := Veil.mk htl
  clear hC hc hl hF hcv hfl hlow he hr hso
  go_enter Try.func49, Try.ntmps49
  go_wp2_with (first | (go_at_call 46; go_must (refine HS.out.mono ?_; rintro ed w3 ⟨v, rfl, hv, hb⟩; obtain ⟨P, cp, rfl, _, hP⟩ := Kd.R_reads hv; rw [List.length_map] at hP ⊢; have HP := Veil.mk hP; have HB3 := Veil.mk hb; clear hv hb hP)) | (go_at_call 26; go_must (refine (HT.out _ HB3.out).mono ?_; rintro ed w4 ⟨v, rfl, hv, hb⟩; have HV4 := Veil.mk hv; have HP4 := Veil.mk (Kd.C_below HP.out hb); have HB4 := Veil.mk (below_of HB3.out hb); obtain ⟨T, ct, rfl, _, _⟩ := Kd.R_reads hv; clear hv hb)))
  have HR0 : Veil (ROrd w3.heap.size w4 w4 first l T ct P (.slice none 0 0) (upT first l 0)) := ⟨⟨HV4.out, HP4.out, Kd.R_nil _ _ _ _ _, Below.refl _ _⟩⟩
  have HLB : Veil (∀ r i : Nat, r ≤ 300 → i ≤ 120 → (upT first l r ++ pickT first l r i).length ≤ 1000000) := ⟨fun r i hr hi => by
    have h1 := upT_len first l r
    have h2 := pickT_len first l r i
    have h3 : r * (triesM l).length ≤ 300 * 120 := Nat.mul_le_mul hr HTL.out
    rw [List.length_append]
    omega⟩
  have htl2 := HTL.out
  clear HV4 HP4 HP
  go_loopw [8, 9] (fun v8 v9 wr => ∃ (r : Nat) (B : Option Addr) (d : Nat), r ≤ 2 * (triesM l).length + 2 ∧ v9 = .int .i64 r ∧ v8 = .slice B (upT first l r).length d ∧ Veil (ROrd w3.heap.size w4 wr first l T ct P (.slice B (upT first l r).length d) (upT first l r))) (fun _ v9 _ => 2 * (triesM l).length + 2 - (intOf v9).toNat)
  case atStart => exact ⟨0, none, 0, Nat.zero_le _, rfl, rfl, HR0⟩
  case round =>
    obtain ⟨r, B, d, hr, rfl, rfl, HK⟩ := hrel
    by_cases hrl : r < 2 * (triesM l).length + 2
    · as_aux_lemma =>
      have d1 : decide ((r : Int) ≤ 2 * ((triesM l).length : Int) + 1) = true := decide_eq_true (by omega)
      have HK0 : Veil (ROrd w3.heap.size w4 wr first l T ct P (.slice B (upT first l r ++ pickT first l r 0).length d) (upT first l r ++ pickT first l r 0)) := ⟨by
        have e : upT first l r ++ pickT first l r 0 = upT first l r := by simp [pickT]
        rw [e]
        exact HK.out⟩
      have HE0 : Veil ((upT first l r ++ pickT first l r 0).length = (upT first l r).length) := ⟨by simp [pickT]⟩
      have HNX := Veil.mk (upT_next first l r)
      clear HK
      go_wp2_with fail
      go_loopw [8, 10, 11] (fun v8 v10 _ wq => ∃ (i : Nat) (B : Option Addr) (d : Nat), i ≤ (triesM l).length ∧ v10 = .int .i64 i ∧ v8 = .slice B (upT first l r ++ pickT first l r i).length d ∧ Veil (ROrd w3.heap.size w4 wq first l T ct P (.slice B (upT first l r ++ pickT first l r i).length d) (upT first l r ++ pickT first l r i))) (fun _ v10 _ _ => (triesM l).length - (intOf v10).toNat)
      case atStart => exact ⟨0, B, d, Nat.zero_le _, rfl, by rw [HE0.out], HK0⟩
      case round =>
        obtain ⟨i, B2, e2, hi, rfl, rfl, HI⟩ := hrel
        by_cases hil : i < (triesM l).length
        · as_aux_lemma =>
          have d3 : decide ((i : Int) < ((triesM l).length : Int)) = true := decide_eq_true (by omega)
          have d4 : (i : Int) < ((triesM l).length : Int) := by omega
          obtain ⟨ap, g, rfl, rfl, x0, q7⟩ := HI.out.at i hil
          have HPN := Veil.mk (pickT_next first l r i)
          have hrk := rankM_at (first := first) (List.getElem?_eq_getElem hil)
          have hx0 := HSM.out _ (List.getElem_mem hil)
          have hx1 := HST.out _ (List.getElem_mem hil)
          have HLL := Veil.mk (HLB.out r i (by omega) (by omega))
          obtain ⟨t, ht⟩ : ∃ t, (triesM l)[i] = t := ⟨_, rfl⟩
          rw [ht] at x0 q7 hrk hx0 hx1
          obtain ⟨x, hx⟩ : ∃ x, seenI (stsM first l) l t = x := ⟨_, rfl⟩
          rw [hx] at x0 hrk hx0 hx1
          obtain ⟨xs, hxs⟩ : ∃ xs, upT first l r ++ pickT first l r i = xs := ⟨_, rfl⟩
          have HPX : Veil (upT first l r ++ pickT first l r (i + 1) = xs ++ (if (rankM first l i).1 == (r : Int) then [rankM first l i] else [])) := ⟨by rw [HPN.out, ← hxs, List.append_assoc]⟩
          rw [hxs] at HI HLL ⊢
          have HZ := HI.out.below.size
          have hx120 : x ≤ 120 := by omega
          clear ht hx hxs HPN
          have HRK := Veil.mk hrk
          clear hrk
          cases h7 : t.f7 with
          | true =>
            rw [h7] at q7 HRK
            clear h7
            have HRK1 : Veil (rankM first l i = (2 * x + 1, (i : Int))) := HRK
            by_cases hq : 2 * x + 1 = (r : Int)
            · have m0 : ((2 * x + 1) == (r : Int)) = true := beq_iff_eq.2 hq
              have HPY : Veil (upT first l r ++ pickT first l r (i + 1) = xs ++ [(2 * x + 1, (i : Int))]) := ⟨by rw [HPX.out, HRK1.out]; simp [hq]⟩
              clear hq HPX HRK HRK1
              go_wp2_with (first | ((with_reducible refine gate_builtin (b := .append) (xs := #[.tmp 49, .tmp 51]) rfl ?_); at_builtin; go_must (refine Kd.R_append kI (w0 := w4) w4.heap.size rfl (.tmp 49) (.tmp 51) 70 3 (.int .i64 0) 8 rfl Try.underlying70 infoInt rfl (Nat.succ_pos 0) (Nat.succ_pos 7) (.slice B2 xs.length e2) (xs.map (·.2)) (i : Int) _ (fun _ => True) (fun _ => False) ?hs ?hx ?hp ?hq (fun _ _ => trivial) ?ho ?hb ?hz ?hl ?_); go_must (case hs => rfl); go_must (case hx => rfl); go_must (case ho => exact HI.out.out); go_must (case hb => exact HI.out.below); go_must (case hz => exact HZ); go_must (case hl => have := HLL.out; rw [List.length_map]; omega); go_must (case hq => exact fun _ h => h.elim); go_must (case hp => rfl); intro v1 w8 hR hB6 hg hat; obtain ⟨A1, c1, rfl⟩ := Kd.R_slice hR; have hln : (xs.map (·.2) ++ [(i : Int)]).length = (xs ++ [(2 * x + 1, (i : Int))]).length := (by simp); have HF : Veil (ROrd w3.heap.size w4 w8 first l (some ⟨g, 0, none⟩) ct (some ap) (.slice A1 (xs ++ [(2 * x + 1, (i : Int))]).length c1) (xs ++ [(2 * x + 1, (i : Int))])) := ⟨⟨HI.out.tries0, HI.out.p0, by rw [List.map_append]; rw [← hln]; exact hR, hB6⟩⟩; rw [hln]; clear hR hB6 hg hat hln))
              exact ⟨⟨i + 1, A1, c1, by omega, by go_num, by rw [HPY.out]; simp, by rw [HPY.out]; exact HF⟩, by simp [intOf]; omega⟩
            · have m0 : ((2 * x + 1) == (r : Int)) = false := beq_eq_false_iff_ne.2 hq
              have HPY : Veil (upT first l r ++ pickT first l r (i + 1) = xs) := ⟨by rw [HPX.out, HRK1.out]; simp [hq]⟩
              clear hq HPX HRK HRK1
              go_wp2
              exact ⟨⟨i + 1, _, _, by omega, by go_num, by rw [HPY.out], by rw [HPY.out]; exact HI⟩, by simp [intOf]; omega⟩
          | false =>
            rw [h7] at q7 HRK
            clear h7
            have HRK1 : Veil (rankM first l i = (2 * x, (i : Int))) := ⟨by rw [HRK.out]; simp⟩
            by_cases hq : 2 * x = (r : Int)
            · have m0 : ((2 * x) == (r : Int)) = true := beq_iff_eq.2 hq
              have HPY : Veil (upT first l r ++ pickT first l r (i + 1) = xs ++ [(2 * x, (i : Int))]) := ⟨by rw [HPX.out, HRK1.out]; simp [hq]⟩
              clear hq HPX HRK HRK1
              go_wp2_with (first | ((with_reducible refine gate_builtin (b := .append) (xs := #[.tmp 49, .tmp 51]) rfl ?_); at_builtin; go_must (refine Kd.R_append kI (w0 := w4) w4.heap.size rfl (.tmp 49) (.tmp 51) 70 3 (.int .i64 0) 8 rfl Try.underlying70 infoInt rfl (Nat.succ_pos 0) (Nat.succ_pos 7) (.slice B2 xs.length e2) (xs.map (·.2)) (i : Int) _ (fun _ => True) (fun _ => False) ?hs ?hx ?hp ?hq (fun _ _ => trivial) ?ho ?hb ?hz ?hl ?_); go_must (case hs => rfl); go_must (case hx => rfl); go_must (case ho => exact HI.out.out); go_must (case hb => exact HI.out.below); go_must (case hz => exact HZ); go_must (case hl => have := HLL.out; rw [List.length_map]; omega); go_must (case hq => exact fun _ h => h.elim); go_must (case hp => rfl); intro v1 w8 hR hB6 hg hat; obtain ⟨A1, c1, rfl⟩ := Kd.R_slice hR; have hln : (xs.map (·.2) ++ [(i : Int)]).length = (xs ++ [(2 * x, (i : Int))]).length := (by simp); have HF : Veil (ROrd w3.heap.size w4 w8 first l (some ⟨g, 0, none⟩) ct (some ap) (.slice A1 (xs ++ [(2 * x, (i : Int))]).length c1) (xs ++ [(2 * x, (i : Int))])) := ⟨⟨HI.out.tries0, HI.out.p0, by rw [List.map_append]; rw [← hln]; exact hR, hB6⟩⟩; rw [hln]; clear hR hB6 hg hat hln))
              exact ⟨⟨i + 1, A1, c1, by omega, by go_num, by rw [HPY.out]; simp, by rw [HPY.out]; exact HF⟩, by simp [intOf]; omega⟩
            · have m0 : ((2 * x) == (r : Int)) = false := beq_eq_false_iff_ne.2 hq
              have HPY : Veil (upT first l r ++ pickT first l r (i + 1) = xs) := ⟨by rw [HPX.out, HRK1.out]; simp [hq]⟩
              clear hq HPX HRK HRK1
              go_wp2
              exact ⟨⟨i + 1, _, _, by omega, by go_num, by rw [HPY.out], by rw [HPY.out]; exact HI⟩, by simp [intOf]; omega⟩
        · as_aux_lemma =>
          have d3 : decide ((i : Int) < ((triesM l).length : Int)) = false := decide_eq_false (by omega)
          have hii : i = (triesM l).length := by omega
          subst hii
          have d3n : decide ((triesM l).length < (triesM l).length) = false := decide_eq_false (Nat.lt_irrefl _)
          have HF : Veil (ROrd w3.heap.size w4 wr first l T ct P (.slice B2 (upT first l (r + 1)).length e2) (upT first l (r + 1))) := ⟨by rw [HNX.out]; exact HI.out⟩
          have HFL : Veil ((upT first l r ++ pickT first l r (triesM l).length).length = (upT first l (r + 1)).length) := ⟨by rw [HNX.out]⟩
          rw [HFL.out]
          go_wp2
          exact ⟨⟨r + 1, B2, e2, by omega, by go_num, rfl, HF⟩, by simp [intOf]; omega⟩
    · as_aux_lemma =>
      have d1 : decide ((r : Int) ≤ 2 * ((triesM l).length : Int) + 1) = false := decide_eq_false (by omega)
      have hrr : r = 2 * (triesM l).length + 2 := by omega
      subst hrr
      have d1n : decide ((2 * ((triesM l).length : Int) + 2) ≤ 2 * ((triesM l).length : Int) + 1) = false := decide_eq_false (by omega)
      go_wp2
      go_ret
      exact ⟨_, rfl, Kd.R_lower HK.out.out HB4.out.size, below_of HB4.out HK.out.below⟩
end Go.Proofs.Ytjmnbbflahacoaa.Opq
/- OpaqueChecks's walk: true for all values and every trace. No condition. -/
namespace Go.Proofs.Ytjmnbbflahacoaa.Opq
open Go.RowKit Go.Proofs.Ytjmnbbflahacoaa.Mem Go.Proofs.Ytjmnbbflahacoaa.Hist Go.Proofs.Ytjmnbbflahacoaa.Model Go.Proofs.Ytjmnbbflahacoaa.PHistTells Go.Proofs.YtjmnbbflahacoaaW.PrintWords
set_option linter.unusedVariables false
set_option linter.unusedSimpArgs false

theorem ints_lt2 {w : World} {A : Option Addr} {xs : List Int} (h : kI.C w A xs.length xs) : ∀ ad, A = some ad → xs ≠ [] → ad.block < w.heap.size := by
  intro ad ha hs
  have hp := List.length_pos_iff.2 hs
  obtain ⟨a, e, h0⟩ := int_at h 0 hp
  rw [ha] at e
  injection e with e
  subst e
  have := World.block_lt_of_cell? w _ h0
  simpa [Addr.add] using this
theorem oints_true (w : World) (A B : Option Addr) (c d : Nat) (xs : List Int) (n : Nat) (hn : xs.length = n) (hC : kI.C w A xs.length xs) (hD : kI.C w B xs.length xs) (hl : xs.length ≤ 1000000) :
    Calls Try.prog 48 #[.slice A n c, .slice B n d] w fun e w' => e = .returned (.bool true) ∧ Below w.heap.size w w' := by
  have := oints_any w A B c d xs xs hC hD hl hl
  rw [hn] at this
  refine this.mono ?_
  rintro e w' ⟨rfl, hb⟩
  exact ⟨by simp, hb⟩

set_option maxHeartbeats 16000000 in
set_option maxRecDepth 100000 in
theorem opaqueChecks_any (w : World) (Av : Option Addr) (cv : Nat) (first : List Int) (A : Option Addr) (c : Nat) (l : List Ev) (hF : kI.C w Av first.length first) (hcv : first.length ≤ cv) (hC : kEv.C w A l.length l) (hc : l.length ≤ c) (hok : ∀ e ∈ l, EvOkO e) :
    Calls Try.prog 16 #[.slice Av first.length cv, .slice A l.length c] w fun e w' => e = .returned (.bool true) ∧ Below w.heap.size w w' := by
  have hlow := ints_lt2 hF
  have HF := Veil.mk hF
  have HC := Veil.mk hC
  have HO := Veil.mk hok
  have HCC := Veil.mk hc
  have HCV := Veil.mk hcv
  have HLOW := Veil.mk hlow
  clear hF hC hok hc hcv hlow
  by_cases h120 : 120 < l.length
  · have g0 : decide ((120 : Int) < (l.length : Int)) = true := decide_eq_true (by omega)
    clear h120
    go_enter Try.func16, Try.ntmps16
    go_wp2_with (first | (go_at_call 43; refine (alive19_any _).mono ?_; rintro ed w1 ⟨rfl, hb⟩; have HB := Veil.mk hb; clear hb))
    go_ret
    exact ⟨rfl, HB.out⟩
  have g0 : decide ((120 : Int) < (l.length : Int)) = false := decide_eq_false (by omega)
  by_cases h20 : 20 < first.length
  · have g1 : decide ((20 : Int) < (first.length : Int)) = true := decide_eq_true (by omega)
    clear h120 h20
    go_enter Try.func16, Try.ntmps16
    go_wp2_with (first | (go_at_call 43; refine (alive19_any _).mono ?_; rintro ed w1 ⟨rfl, hb⟩; have HB := Veil.mk hb; clear hb))
    go_ret
    exact ⟨rfl, HB.out⟩
  have g1 : decide ((20 : Int) < (first.length : Int)) = false := decide_eq_false (by omega)
  have HL : Veil (l.length ≤ 120 ∧ first.length ≤ 20) := ⟨by omega⟩
  clear h120 h20
  have HRS := Veil.mk (fun (W : World) (h : Below w.heap.size w W) => refseen_any W A c l Av cv first (Kd.C_below HC.out h) HCC.out HL.out.1 (Kd.C_below HF.out h) HCV.out HL.out.2 (fun ad h1 h2 => Nat.lt_of_lt_of_le (HLOW.out ad h1 h2) h.size))
  have HCK := Veil.mk (fun (W : World) (h : Below w.heap.size w W) => check_any W A c l Av cv first (Kd.C_below HC.out h) HCC.out HL.out.1 HO.out (Kd.C_below HF.out h) HL.out.2)
  have HSN := Veil.mk (fun (W : World) (h : Below w.heap.size w W) => oseen_any W A c l Av cv first (Kd.C_below HC.out h) HCC.out HL.out.1 HO.out (Kd.C_below HF.out h) HL.out.2)
  have HOR := Veil.mk (fun (W : World) (h : Below w.heap.size w W) => order_any W A c l Av cv first (Kd.C_below HC.out h) HCC.out HL.out.1 HO.out (Kd.C_below HF.out h) HL.out.2)
  have HTL : Veil ((triesM l).length ≤ 120) := ⟨Nat.le_trans (triesM_len l) HL.out.1⟩
  by_cases he : errM first l = 0
  · have HE := Veil.mk he
    have HSO := Veil.mk (seenOut_ok he)
    have HRO := Veil.mk (fun (W : World) (h : Below w.heap.size w W) => reforder_any W A c l Av cv first (Kd.C_below HC.out h) HCC.out HL.out.1 (Kd.C_below HF.out h) HCV.out HL.out.2 (fun ad h1 h2 => Nat.lt_of_lt_of_le (HLOW.out ad h1 h2) h.size) he)
    have HUP := Veil.mk (upT_order (first := first) (l := l) (seenOut_ok he).2 (fun t ht => seen_tries (bad_of_ok he).1 ht ((seenOut_ok he).2 t ht)))
    have hck : checkRes first l = -1 := by unfold checkRes; rw [if_pos he]
    have hsr : seenRes first l = seenOut first l := by unfold seenRes; rw [if_pos he]
    rw [hck, he] at HCK
    rw [hsr, he] at HSN
    rw [he] at HRS
    obtain ⟨so, hso⟩ : ∃ so, seenOut first l = so := ⟨_, rfl⟩
    have HSL : Veil (so.length ≤ 120) := ⟨by rw [← hso, HSO.out.1, List.length_map]; exact HTL.out⟩
    obtain ⟨os, hos⟩ : ∃ os, (upT first l (2 * (triesM l).length + 2)).map (·.2) = os := ⟨_, rfl⟩
    rw [hso] at HSN HRS
    rw [hos] at HRO
    have HUL : Veil (os.length ≤ 1000000) := ⟨by rw [← hos, List.length_map, order_length HUP.out]; have := HTL.out; omega⟩
    have HOR2 : Veil (∀ W, Below w.heap.size w W → Calls Try.prog 45 #[.slice Av first.length cv, .slice A l.length c] W fun e w' => ∃ A5 c5, e = .returned (.tuple #[.slice A5 os.length c5, .int .i64 0]) ∧ kI.C w' A5 os.length os ∧ Below W.heap.size W w') := ⟨fun W h => by
      refine (HOR.out W h).mono ?_
      rintro e w' ⟨⟨v, rfl, ho, _⟩, hb⟩
      obtain ⟨ts, hts, hv⟩ := ho HE.out
      have htu := order_unique hts HUP.out.perm HUP.out.sorted
      rw [htu, hos] at hv
      obtain ⟨A5, c5, rfl, _, h5⟩ := Kd.R_reads hv
      exact ⟨A5, c5, by rw [HE.out], h5, hb⟩⟩
    clear he hck hsr hso hos HOR HSO HUP
    go_enter Try.func16, Try.ntmps16
    go_wp2_with (first | (go_at_call 43; refine (alive19_any _).mono ?_; rintro ed w1 ⟨rfl, hb⟩; have HB := Veil.mk hb; clear hb) | (go_at_call 46; go_must (refine (HRS.out _ HB.out).mono ?_; rintro ed w2 ⟨v, rfl, hv, hb⟩; obtain ⟨A2, c2, rfl, _, h2⟩ := Kd.R_reads hv; have H2 := Veil.mk h2; have HB2 := Veil.mk (below_of HB.out hb); clear hv hb h2)) | (go_at_call 47; go_must (refine (HCK.out _ HB2.out).mono ?_; rintro ed w3 ⟨rfl, hb⟩; have H3 := Veil.mk (Kd.C_below H2.out hb); have HB3 := Veil.mk (below_of HB2.out hb); clear hb)) | (go_at_call 44; go_must (refine (HSN.out _ HB3.out).mono ?_; rintro ed w4 ⟨v, rfl, hv, hb⟩; obtain ⟨A4, c4, rfl, _, h4⟩ := Kd.R_reads hv; have H4 := Veil.mk h4; have H4b := Veil.mk (Kd.C_below H3.out hb); have HB4 := Veil.mk (below_of HB3.out hb); clear hv hb h4)) | (go_at_call 45; go_must (refine (HOR2.out _ HB4.out).mono ?_; rintro ed w5 ⟨A5, c5, rfl, h5, hb⟩; have H5 := Veil.mk h5; have H5b := Veil.mk (Kd.C_below H4b.out hb); have H5c := Veil.mk (Kd.C_below H4.out hb); have HB5 := Veil.mk (below_of HB4.out hb); clear hb h5)) | (go_at_call 48; with_reducible refine (oints_true _ A4 A2 c4 c2 so so.length rfl H5c.out H5b.out (by have := HSL.out; omega)).mono ?_; go_must (rintro ed w6 ⟨rfl, hb⟩; have H6 := Veil.mk (Kd.C_below H5.out hb); have HB6 := Veil.mk (below_of HB5.out hb); clear hb)) | (go_at_call 49; go_must (refine (HRO.out _ HB6.out).mono ?_; rintro ed w7 ⟨v, rfl, hv, hb⟩; obtain ⟨A7, c7, rfl, _, h7⟩ := Kd.R_reads hv; have H7 := Veil.mk h7; have H7b := Veil.mk (Kd.C_below H6.out hb); have HB7 := Veil.mk (below_of HB6.out hb); clear hv hb h7)) | (go_at_call 48; go_must (refine (oints_true _ A5 A7 c5 c7 os os.length rfl H7b.out H7.out HUL.out).mono ?_; rintro ed w8 ⟨rfl, hb⟩; have HB8 := Veil.mk (below_of HB7.out hb); clear hb)))
    go_ret
    exact ⟨rfl, HB8.out⟩
  · have HE := Veil.mk he
    have hck : checkRes first l = ((seenOut first l).length : Int) := by unfold checkRes; rw [if_neg he]
    have hsr : seenRes first l = [] := by unfold seenRes; rw [if_neg he]
    have m0 : (errM first l != 0) = true := by simp [he]
    rw [hck] at HCK
    rw [hsr] at HSN
    have HSL : Veil ((seenOut first l).length ≤ 1000000) := ⟨by
      unfold seenOut seenUpTo
      split
      · rw [List.length_map, List.length_take]
        have := HTL.out
        omega
      · simp⟩
    clear he hck hsr
    go_enter Try.func16, Try.ntmps16
    go_wp2_with (first | (go_at_call 43; refine (alive19_any _).mono ?_; rintro ed w1 ⟨rfl, hb⟩; have HB := Veil.mk hb; clear hb) | (go_at_call 46; go_must (refine (HRS.out _ HB.out).mono ?_; rintro ed w2 ⟨v, rfl, hv, hb⟩; obtain ⟨A2, c2, rfl, _, h2⟩ := Kd.R_reads hv; have HB2 := Veil.mk (below_of HB.out hb); clear hv hb h2)) | (go_at_call 47; go_must (refine (HCK.out _ HB2.out).mono ?_; rintro ed w3 ⟨rfl, hb⟩; have HB3 := Veil.mk (below_of HB2.out hb); clear hb)) | (go_at_call 44; go_must (refine (HSN.out _ HB3.out).mono ?_; rintro ed w4 ⟨v, rfl, hv, hb⟩; obtain ⟨A4, c4, rfl, _, h4⟩ := Kd.R_reads hv; have HB4 := Veil.mk (below_of HB3.out hb); clear hv hb h4)) | (go_at_call 45; go_must (refine (HOR.out _ HB4.out).mono ?_; rintro ed w5 ⟨⟨v, rfl, _, ho⟩, hb⟩; have hvv := ho HE.out; subst hvv; have HB5 := Veil.mk (below_of HB4.out hb); clear hb ho)))
    go_ret
    exact ⟨by simp, HB5.out⟩
end Go.Proofs.Ytjmnbbflahacoaa.Opq
/- OpaqueChecks: the call, for whatever reads as its arguments, returns true. No condition. -/
namespace Go.Proofs.Ytjmnbbflahacoaa.Opq
open Go.ChangeShapes Go.WideShapes Go.ChangeAt Go.RowKit Go.Proofs.Ytjmnbbflahacoaa.Kit Go.Proofs.Ytjmnbbflahacoaa.Hist Go.Proofs.Ytjmnbbflahacoaa.Model Go.Proofs.YtjmnbbflahacoaaW.PrintWords
set_option linter.unusedVariables false

set_option maxRecDepth 100000 in
theorem walk_opaqueChecks {H : Type} {enc : TypeId × Value → H} (W : World) (base : Nat) {v0 v1 : Value} {d0 d1 : DataW H} {p0 p1 : List MemPlace}
    (k0 : Value.okWide Try.prog W .any base 47 v0) (h0 : DataW.Trod enc Try.prog W 0 (fun _ => true) true 47 v0 d0 p0)
    (k1 : Value.okWide Try.prog W .any base 22 v1) (h1 : DataW.Trod enc Try.prog W 0 (fun _ => true) true 22 v1 d1 p1) :
    Calls Try.prog 16 #[v0, v1] W fun e W' => e = .returned (.bool true) ∧ Below W.heap.size W W' := by
  obtain ⟨Av, cv, xs, rfl, hcv, hF⟩ := open_vals k0 h0
  obtain ⟨A, c, l, rfl, hl, hC, hok⟩ := open_evsO k1 h1
  exact opaqueChecks_any W Av cv xs A c l hF hcv hC hl hok
end Go.Proofs.Ytjmnbbflahacoaa.Opq
