/- OpaqueSpoilt's walk: true for all values and every trace. No condition. -/
import Derived.Test.YtjmnbbflahacoaaSpoilt
namespace Go.Proofs.Ytjmnbbflahacoaa.Opq
open Go.RowKit Go.Proofs.Ytjmnbbflahacoaa.Mem Go.Proofs.Ytjmnbbflahacoaa.Hist Go.Proofs.Ytjmnbbflahacoaa.Model Go.Proofs.Ytjmnbbflahacoaa.PHistTells Go.Proofs.YtjmnbbflahacoaaW.PrintWords
set_option linter.unusedVariables false
set_option linter.unusedSimpArgs false

/-- Is the state q one in which the object o has v, and counts? -/
def hadAt (ss : List (List Int)) (l : List Ev) (x : Tr) (o : Nat) (v : Int) (q : Nat) : Bool := (ss.getD q []).getD o 0 == v && (!x.f7 || (q : Int) == (beforeM l x.f5 : Int))
def hadTo (ss : List (List Int)) (l : List Ev) (x : Tr) (o : Nat) (v : Int) (n : Nat) : Bool := (List.range n).any (hadAt ss l x o v)
theorem hadTo_next (ss : List (List Int)) (l : List Ev) (x : Tr) (o : Nat) (v : Int) (n : Nat) : hadTo ss l x o v (n + 1) = (hadTo ss l x o v n || hadAt ss l x o v n) := by
  unfold hadTo
  rw [List.range_succ, List.any_append]
  simp
theorem had_no {ss : List (List Int)} {l : List Ev} {x : Tr} {o : Nat} {v : Int} (h : hadTo ss l x o v ss.length = false) : ∀ (k : Nat) (s : List Int), ss[k]? = some s → s[o]? = some v → x.f7 = true ∧ (k : Int) ≠ (beforeM l x.f5 : Int) := fun k s hk hs => by
  unfold hadTo at h
  rw [List.any_eq_false] at h
  have hkl := (List.getElem?_eq_some_iff.1 hk).1
  have := h k (by simpa using hkl)
  unfold hadAt at this
  have e1 : ss.getD k [] = s := by rw [List.getD_eq_getElem?_getD, hk]; rfl
  have e2 : s.getD o 0 = v := by rw [List.getD_eq_getElem?_getD, hs]; rfl
  rw [e1, e2] at this
  simp only [beq_self_eq_true, Bool.true_and, Bool.or_eq_true, Bool.not_eq_true', beq_iff_eq, not_or] at this
  exact ⟨by simpa using this.1, this.2⟩
theorem fix_ok {l : List Ev} (h : ∀ e ∈ l, EvOkO e) (p : Nat) {e : Ev} (he : l[p]? = some e) (v : Int) : ∀ x ∈ l.set p (fixE v e), EvOkO x := fun x hx => by
  rcases List.mem_or_eq_of_mem_set hx with hx | rfl
  · exact h x hx
  · have := h e (List.mem_of_getElem? he)
    exact ⟨⟨this.1.w1, this.1.w2⟩, this.2⟩
/-- A row of events of the call's own, one value of it another one. -/
theorem ev_put {W : World} {base g n cap : Nat} {l : List Ev} (h : kEv.R 31 W base (fun _ => True) (.slice (some ⟨g, 0, none⟩) n cap) l) (p : Nat) (hp : p < l.length) {e : Ev} (he : l[p]? = some e) (v : Int) :
    W.cell? ⟨g, p * 7 + 5, none⟩ = some (.int .i64 e.f5) ∧ W.frozen? ⟨g, p * 7 + 5, none⟩ = false ∧ base ≤ g ∧ kEv.R 31 (W.setCell ⟨g, p * 7 + 5, none⟩ (.int .i64 v)) base (fun _ => True) (.slice (some ⟨g, 0, none⟩) n cap) (l.set p (fixE v e)) := by
  have hn := (Kd.R_reads' h).1
  obtain ⟨g', cap', hv, hg, _, _⟩ := Kd.R_form h (by omega)
  injection hv with e1 _ e3
  injection e1 with e1
  injection e1 with e1 _ _
  subst e1
  obtain ⟨cs, hcl, hM, hcc, hfr⟩ := Kd.R_elem h z31 (p : Int) (by omega) (by omega)
  simp only [Int.toNat_natCast, List.getD_eq_getElem?_getD, he, Option.getD_some] at hM hcc hfr
  have hcs := k31_openM hM
  subst hcs
  have h5 := hcc 5 _ rfl
  have f5 := hfr 5
  refine ⟨h5, f5, hg, ?_⟩
  have hs := (Kd.R_seg (okp := fun _ => False) h (p : Int) (by omega) (by omega) (c := [.int .i64 e.f0, .int .i64 e.f1, .int .i64 e.f2, .int .i64 e.f3, .int .i64 e.f4, .int .i64 e.f5, .int .i64 e.f6]) (seg := [.int .i64 v]) (j := 5) rfl (fun j u hj => by rw [Int.toNat_natCast]; exact hcc j u hj) (by show 5 + 1 ≤ 7; omega) (x' := fixE v e) (k31_mkM _ _ _ (fixE v e)) (fun _ h => h.elim)).1
  exact hs

def zEv : Value := .agg #[(.int .i64 0), (.int .i64 0), (.int .i64 0), (.int .i64 0), (.int .i64 0), (.int .i64 0), (.int .i64 0)]
theorem infoEv : (Try.prog.info? 31).map (fun i => (i.zero, i.size, i.bytes)) = some (some zEv, 7, 56) := by kernel_rfl
theorem ev_KM {W : World} {base : Nat} {ok : Nat → Prop} {W0 : World} : ∀ (x : Ev) (cs : List Value), kEv.K W0 x cs → kEv.M W base ok x cs := fun x cs h => by
  have := k31_open h
  subst this
  exact k31_mkM _ _ _ _

theorem tr_at3 {w : World} {A : Option Addr} {l : List Tr} (h : kTr.C w A l.length l) (k : Nat) (hk : k < l.length) :
    ∃ ad A8 c8, A = some ad ∧ w.cell? (ad.add (k * 9)) = some (.int .i64 l[k].f0) ∧ w.cell? ⟨(ad.add (k * 9)).block, (ad.add (k * 9)).off + 1, none⟩ = some (.int .i64 l[k].f1) ∧ w.cell? ⟨(ad.add (k * 9)).block, (ad.add (k * 9)).off + 2, none⟩ = some (.int .i64 l[k].f2) ∧ w.cell? ⟨(ad.add (k * 9)).block, (ad.add (k * 9)).off + 3, none⟩ = some (.int .i64 l[k].f3) ∧ w.cell? ⟨(ad.add (k * 9)).block, (ad.add (k * 9)).off + 4, none⟩ = some (.int .i64 l[k].f4) ∧ w.cell? ⟨(ad.add (k * 9)).block, (ad.add (k * 9)).off + 5, none⟩ = some (.int .i64 l[k].f5) ∧ w.cell? ⟨(ad.add (k * 9)).block, (ad.add (k * 9)).off + 6, none⟩ = some (.int .i64 l[k].f6) ∧ w.cell? ⟨(ad.add (k * 9)).block, (ad.add (k * 9)).off + 7, none⟩ = some (.bool l[k].f7) ∧ w.cell? ⟨(ad.add (k * 9)).block, (ad.add (k * 9)).off + 8, none⟩ = some (.slice A8 l[k].f8.length c8) ∧ kAcc.C w A8 l[k].f8.length l[k].f8 := by
  obtain ⟨ad, A8, c8, rfl, h0, h1, h2, h3, h4, h5, h6, h7, h8, h9⟩ := at_T29 h (k : Int) (by omega) (by omega)
  have hx : rd_T29 l (k : Int) = l[k] := by unfold rd_T29; simp [List.getD, hk]
  simp only [Int.toNat_natCast, hx] at h0 h1 h2 h3 h4 h5 h6 h7 h8 h9
  exact ⟨ad, A8, c8, rfl, h0, h1, h2, h3, h4, h5, h6, h7, h8, h9.2⟩
theorem acc_at3 {w : World} {A : Option Addr} {l : List Acc} (h : kAcc.C w A l.length l) (k : Nat) (hk : k < l.length) :
    ∃ ad, A = some ad ∧ w.cell? (ad.add (k * 6)) = some (.int .i64 l[k].f0) ∧ w.cell? ⟨(ad.add (k * 6)).block, (ad.add (k * 6)).off + 1, none⟩ = some (.int .i64 l[k].f1) ∧ w.cell? ⟨(ad.add (k * 6)).block, (ad.add (k * 6)).off + 2, none⟩ = some (.int .i64 l[k].f2) ∧
      w.cell? ⟨(ad.add (k * 6)).block, (ad.add (k * 6)).off + 3, none⟩ = some (.int .i64 l[k].f3) ∧ w.cell? ⟨(ad.add (k * 6)).block, (ad.add (k * 6)).off + 4, none⟩ = some (.bool l[k].f4) ∧ w.cell? ⟨(ad.add (k * 6)).block, (ad.add (k * 6)).off + 5, none⟩ = some (.bool l[k].f5) := by
  obtain ⟨ad, rfl, h0, h1, h2, h3, h4, h5⟩ := at_T33 h (k : Int) (by omega) (by omega)
  have hx : rd_T33 l (k : Int) = l[k] := by unfold rd_T33; simp [List.getD, hk]
  simp only [Int.toNat_natCast, hx] at h0 h1 h2 h3 h4 h5
  exact ⟨ad, rfl, h0, h1, h2, h3, h4, h5⟩
/-- What stands in OpaqueSpoilt behind the example. -/
structure SpAt (w W : World) (first : List Int) (l : List Ev) (x : Tr) (bx : Nat) (A8 : Option Addr) (c8 : Nat) (S : Option Addr) : Prop where
  box : Blk W bx 29 (trC x (.slice A8 x.f8.length c8))
  acc : kAcc.C W A8 x.f8.length x.f8
  sts : kS.C W S (stsM first l).length (stsM first l)
  below : Below w.heap.size w W
theorem SpAt.step {w W W' : World} {first : List Int} {l : List Ev} {x : Tr} {bx : Nat} {A8 : Option Addr} {c8 : Nat} {S : Option Addr} (h : SpAt w W first l x bx A8 c8 S) (hb : Below W.heap.size W W') : SpAt w W' first l x bx A8 c8 S :=
  ⟨h.box.below hb h.box.lt, Kd.C_below h.acc hb, Kd.C_below h.sts hb, below_of h.below hb⟩

set_option maxHeartbeats 16000000 in
set_option maxRecDepth 100000 in
theorem opaqueSpoilt_any (w : World) (Av : Option Addr) (cv : Nat) (first : List Int) (A : Option Addr) (c : Nat) (l : List Ev) (k v : Int) (hF : kI.C w Av first.length first) (hC : kEv.C w A l.length l) (hc : l.length ≤ c) (hok : ∀ e ∈ l, EvOkO e) (hk0 : 0 ≤ k) (hk1 : k ≤ 255) :
    Calls Try.prog 17 #[.slice Av first.length cv, .slice A l.length c, .int .u8 k, .int .i64 v] w fun e w' => e = .returned (.bool true) ∧ Below w.heap.size w w' := by
  have HF := Veil.mk hF
  have HC := Veil.mk hC
  have HO := Veil.mk hok
  have HCC := Veil.mk hc
  clear hF hC hok hc
  by_cases h120 : 120 < l.length
  · have g0 : decide ((120 : Int) < (l.length : Int)) = true := decide_eq_true (by omega)
    clear h120
    go_enter Try.func17, Try.ntmps17
    go_wp2_with (first | (go_at_call 43; refine (alive19_any _).mono ?_; rintro ed w1 ⟨rfl, hb⟩; have HB := Veil.mk hb; clear hb))
    go_ret
    exact ⟨rfl, HB.out⟩
  have g0 : decide ((120 : Int) < (l.length : Int)) = false := decide_eq_false (by omega)
  by_cases h20 : 20 < first.length
  · have g1 : decide ((20 : Int) < (first.length : Int)) = true := decide_eq_true (by omega)
    clear h120 h20
    go_enter Try.func17, Try.ntmps17
    go_wp2_with (first | (go_at_call 43; refine (alive19_any _).mono ?_; rintro ed w1 ⟨rfl, hb⟩; have HB := Veil.mk hb; clear hb))
    go_ret
    exact ⟨rfl, HB.out⟩
  have g1 : decide ((20 : Int) < (first.length : Int)) = false := decide_eq_false (by omega)
  have HL : Veil (l.length ≤ 120 ∧ first.length ≤ 20) := ⟨by omega⟩
  have hl1 : l.length ≤ 120 := by omega
  have hf1 : first.length ≤ 20 := by omega
  clear h120 h20
  have HCK := Veil.mk (fun (W : World) (h : Below w.heap.size w W) => check_any W A c l Av cv first (Kd.C_below HC.out h) HCC.out HL.out.1 HO.out (Kd.C_below HF.out h) HL.out.2)
  have HTR := Veil.mk (fun (W : World) (h : Below w.heap.size w W) => tries_any W A c l (Kd.C_below HC.out h) (by have := HL.out; omega) (fun e he => (HO.out e he).1))
  have HST := Veil.mk (fun (W : World) (h : Below w.heap.size w W) => states_any W A c l Av cv first (Kd.C_below HC.out h) (by have := HL.out; omega) (fun e he => (HO.out e he).1) (Kd.C_below HF.out h) (by have := HL.out; omega) (fun t ht => Nat.le_trans (commitsM_acc l t ht) (by have := HL.out; omega)))
  have HBE := Veil.mk (fun (W : World) (h : Below w.heap.size w W) (p : Int) => before_any W A c l p (Kd.C_below HC.out h) HCC.out (by have := HL.out; omega))
  by_cases he : errM first l = 0
  · have HE := Veil.mk he
    have hck : checkRes first l = -1 := by unfold checkRes; rw [if_pos he]
    rw [hck, he] at HCK
    have hr := (bad_of_ok he).1
    have HSL : Veil ((stsM first l).length = beforeM l l.length + 1) := ⟨by rw [stsM_length, commitsM_length l hr]⟩
    have HSE := Veil.mk (stsM_each first l)
    have HTL : Veil ((triesM l).length ≤ 120) := ⟨by
      have h1 : (triesM l).length ≤ l.length := by
        unfold triesM
        cases h : readM l with
        | none => simp
        | some ts => exact readM_length h
      omega⟩
    clear hck he hr
    by_cases ht0 : (triesM l).length = 0
    · have m0 : (((triesM l).length : Int) == 0) = true := by simp [ht0]
      clear ht0
      go_enter Try.func17, Try.ntmps17
      go_wp2_with (first | (go_at_call 43; refine (alive19_any _).mono ?_; rintro ed w1 ⟨rfl, hb⟩; have HB := Veil.mk hb; clear hb) | (go_at_call 47; go_must (refine (HCK.out _ HB.out).mono ?_; rintro ed w2 ⟨rfl, hb⟩; have HB2 := Veil.mk (below_of HB.out hb); clear hb)) | (go_at_call 21; go_must (refine (HTR.out _ HB2.out).mono ?_; rintro ed w3 ⟨v3, rfl, hv, hb⟩; obtain ⟨T, ct, rfl, _, hT⟩ := Kd.R_reads hv; have HB3 := Veil.mk (below_of HB2.out hb); clear hv hb hT)) | (go_at_call 33; go_must (refine (HST.out _ HB3.out).mono ?_; rintro ed w4 ⟨v4, rfl, hv, hb⟩; obtain ⟨S, cs, rfl, _, hS⟩ := Kd.R_reads hv; have HB4 := Veil.mk (below_of HB3.out hb); clear hv hb hS)))
      go_ret
      exact ⟨rfl, HB4.out⟩
    · have m0 : (((triesM l).length : Int) == 0) = false := beq_eq_false_iff_ne.2 (by omega)
      have hk2 : 0 ≤ k := hk0
      obtain ⟨j, hj⟩ : ∃ j : Nat, k.tmod ((triesM l).length : Int) = (j : Int) := ⟨(k.tmod ((triesM l).length : Int)).toNat, by rw [Int.toNat_of_nonneg (Int.tmod_nonneg _ hk0)]⟩
      have hjl : j < (triesM l).length := by
        have := Int.tmod_lt_of_pos k (show (0 : Int) < ((triesM l).length : Int) by omega)
        omega
      have hjl2 : (j : Int) < ((triesM l).length : Int) := by omega
      have htl := HTL.out
      have HJL := Veil.mk hjl
      have HSPO := Veil.mk (fun (i : Nat) (a : Acc) => spoilt (first := first) HE.out (List.getElem?_eq_getElem hjl) (i := i) (a := a))
      have hgood := (triesM_good l).1 _ (List.getElem_mem hjl)
      have HGA := Veil.mk hgood.acc
      have HXA := Veil.mk (triesM_acc l _ (List.getElem_mem hjl))
      obtain ⟨x, hx⟩ : ∃ x, (triesM l)[j] = x := ⟨_, rfl⟩
      rw [hx] at HSPO HGA HXA
      have HX := Veil.mk hx
      clear ht0 hx hgood
      go_enter Try.func17, Try.ntmps17
      go_wp2_with (first | (go_at_call 43; refine (alive19_any _).mono ?_; rintro ed w1 ⟨rfl, hb⟩; have HB := Veil.mk hb; clear hb) | (go_at_call 47; go_must (refine (HCK.out _ HB.out).mono ?_; rintro ed w2 ⟨rfl, hb⟩; have HB2 := Veil.mk (below_of HB.out hb); clear hb)) | (go_at_call 21; go_must (refine (HTR.out _ HB2.out).mono ?_; rintro ed w3 ⟨v3, rfl, hv, hb⟩; obtain ⟨T, ct, rfl, _, hT⟩ := Kd.R_reads hv; have HT := Veil.mk hT; have HB3 := Veil.mk (below_of HB2.out hb); clear hv hb hT)) | (go_at_call 33; go_must (refine (HST.out _ HB3.out).mono ?_; rintro ed w4 ⟨v4, rfl, hv, hb⟩; obtain ⟨S, cs, rfl, _, hS⟩ := Kd.R_reads hv; have HS := Veil.mk hS; have HB4 := Veil.mk (below_of HB3.out hb); obtain ⟨ad, A8, c8, rfl, q0, q1, q2, q3, q4, q5, q6, q7, q8, hacc⟩ := tr_at3 (Kd.C_below HT.out hb) j HJL.out; rw [HX.out] at q0 q1 q2 q3 q4 q5 q6 q7 q8 hacc; have HACC := Veil.mk hacc; clear hv hb hS hacc)))
      have HSP0 : Veil (SpAt w (w4.alloc (.cells #[.int .i64 x.f0, .int .i64 x.f1, .int .i64 x.f2, .int .i64 x.f3, .int .i64 x.f4, .int .i64 x.f5, .int .i64 x.f6, .bool x.f7, .slice A8 x.f8.length c8] 29)) first l x w4.heap.size A8 c8 S) := ⟨⟨Blk.new w4 _ _, Kd.C_below HACC.out ((Below.refl _ _).alloc (Nat.le_refl _) _), Kd.C_below HS.out ((Below.refl _ _).alloc (Nat.le_refl _) _), HB4.out.alloc HB4.out.size _⟩⟩
      generalize w4.alloc (.cells #[.int .i64 x.f0, .int .i64 x.f1, .int .i64 x.f2, .int .i64 x.f3, .int .i64 x.f4, .int .i64 x.f5, .int .i64 x.f6, .bool x.f7, .slice A8 x.f8.length c8] 29) = w5 at *
      clear q0 q1 q2 q3 q4 q5 q6 q7 q8
      go_loopw [14] (fun v14 wr => ∃ i : Nat, i ≤ x.f8.length ∧ v14 = .int .i64 i ∧ Veil (SpAt w wr first l x w4.heap.size A8 c8 S)) (fun v14 _ => x.f8.length - (intOf v14).toNat)
      case atStart => exact ⟨0, Nat.zero_le _, rfl, HSP0⟩
      case round =>
        obtain ⟨i, hi, rfl, HSP⟩ := hrel
        have hxl : x.f8.length ≤ 120 := by have := HXA.out; omega
        have p8 := HSP.out.box.cell 8 _ rfl
        by_cases hil : i < x.f8.length
        · as_aux_lemma =>
          have d1 : decide ((i : Int) < (x.f8.length : Int)) = true := decide_eq_true (by omega)
          have d2 : (i : Int) < (x.f8.length : Int) := by omega
          obtain ⟨ae, rfl, h0, h1, h2, h3, h4, h5⟩ := acc_at3 HSP.out.acc i hil
          have hai : x.f8[i]? = some x.f8[i] := List.getElem?_eq_getElem hil
          have HGI := Veil.mk (HGA.out _ (List.getElem_mem hil))
          obtain ⟨a, ha⟩ : ∃ a, x.f8[i] = a := ⟨_, rfl⟩
          rw [ha] at h0 h1 h2 h3 h4 h5 HGI
          rw [ha] at hai
          have HAI := Veil.mk hai
          clear ha hai
          obtain ⟨a0, a1, a2, a3, a4, a5⟩ := a
          dsimp only at h0 h1 h2 h3 h4 h5
          have HBN := Veil.mk ((Below.refl wr.heap.size wr).alloc (Nat.le_refl _) (.cells #[.int .i64 a0, .int .i64 a1, .int .i64 a2, .int .i64 a3, .bool a4, .bool a5] 33))
          have HSPN := Veil.mk (HSP.out.step HBN.out)
          have HXA1 := Veil.mk (Blk.new wr #[.int .i64 a0, .int .i64 a1, .int .i64 a2, .int .i64 a3, .bool a4, .bool a5] 33)
          by_cases e1 : a1 = 2
          · have m1 : (a1 != 2) = false := by simp [e1]
            cases a4 with
            | true =>
              clear e1
              go_wp2
              exact ⟨⟨i + 1, by omega, by go_num, HSPN⟩, by simp [intOf]; omega⟩
            | false =>
              cases a5 with
              | true =>
                clear e1
                go_wp2
                exact ⟨⟨i + 1, by omega, by go_num, HSPN⟩, by simp [intOf]; omega⟩
              | false =>
                by_cases e2 : a2 < 0
                · have m2 : decide (a2 < 0) = true := decide_eq_true e2
                  clear e1 e2
                  go_wp2
                  exact ⟨⟨i + 1, by omega, by go_num, HSPN⟩, by simp [intOf]; omega⟩
                · have m2 : decide (a2 < 0) = false := decide_eq_false e2
                  by_cases e3 : (first.length : Int) ≤ a2
                  · have m3 : decide ((first.length : Int) ≤ a2) = true := decide_eq_true e3
                    clear e1 e2 e3
                    go_wp2
                    exact ⟨⟨i + 1, by omega, by go_num, HSPN⟩, by simp [intOf]; omega⟩
                  · have m3 : decide ((first.length : Int) ≤ a2) = false := decide_eq_false e3
                    have HA2 : Veil (0 ≤ a2 ∧ a2 < (first.length : Int)) := ⟨by omega⟩
                    have a20 : 0 ≤ a2 := by omega
                    have a21 : a2 < (first.length : Int) := by omega
                    have HE1 := Veil.mk e1
                    clear e1 e2 e3
                    go_wp2_with fail
                    clear p8 h0 h1 h2 h3 h4 h5
                    obtain ⟨bA, hbA⟩ : ∃ n, wr.heap.size = n := ⟨_, rfl⟩
                    rw [hbA] at HXA1 ⊢
                    clear hbA
                    go_loopw [16, 17] (fun v16 v17 wx => ∃ q : Nat, q ≤ (stsM first l).length ∧ v17 = .int .i64 q ∧ v16 = .bool (hadTo (stsM first l) l x a2.toNat v q) ∧ Veil (SpAt w wx first l x w4.heap.size (some ae) c8 S) ∧ Veil (Blk wx bA 33 [.int .i64 a0, .int .i64 a1, .int .i64 a2, .int .i64 a3, .bool false, .bool false])) (fun _ v17 _ => (stsM first l).length - (intOf v17).toNat)
                    case atStart => exact ⟨0, Nat.zero_le _, rfl, rfl, HSPN, HXA1⟩
                    case round =>
                      obtain ⟨q, hq, rfl, rfl, HSI, HXI⟩ := hrel
                      have hssl : (stsM first l).length ≤ 121 := by rw [HSL.out]; have := beforeM_len l l.length; omega
                      by_cases hql : q < (stsM first l).length
                      · as_aux_lemma =>
                        have d3 : decide ((q : Int) < ((stsM first l).length : Int)) = true := decide_eq_true (by omega)
                        have d4 : (q : Int) < ((stsM first l).length : Int) := by omega
                        obtain ⟨sd, Ak, ck, rfl, s0, _, hCk⟩ := sts_at HSI.out.sts q hql
                        have hsl := HSE.out _ (List.getElem_mem hql)
                        have hgd : (stsM first l).getD q [] = (stsM first l)[q] := by rw [List.getD_eq_getElem?_getD, List.getElem?_eq_getElem hql]; rfl
                        have hnx := hadTo_next (stsM first l) l x a2.toNat v q
                        have hat : hadAt (stsM first l) l x a2.toNat v q = (((stsM first l)[q]).getD a2.toNat 0 == v && (!x.f7 || (q : Int) == (beforeM l x.f5 : Int))) := by unfold hadAt; rw [hgd]
                        obtain ⟨sq, hsq⟩ : ∃ s, (stsM first l)[q] = s := ⟨_, rfl⟩
                        rw [hsq] at s0 hCk hsl hat
                        obtain ⟨ak, rfl, y0⟩ := int_at hCk a2.toNat (by omega)
                        have hgy : sq.getD a2.toNat 0 = sq[a2.toNat]'(by omega) := by rw [List.getD_eq_getElem?_getD, List.getElem?_eq_getElem (by omega)]; rfl
                        rw [hgy] at hat
                        obtain ⟨y, hy⟩ : ∃ y, sq[a2.toNat]'(by omega) = y := ⟨_, rfl⟩
                        rw [hy] at y0 hat
                        have a22 : a2 < (sq.length : Int) := by omega
                        have HNX := Veil.mk hnx
                        have HAT := Veil.mk hat
                        clear hnx hat hsq hgy hy hgd hsl hCk
                        obtain ⟨r, hr⟩ : ∃ r, hadTo (stsM first l) l x a2.toNat v q = r := ⟨_, rfl⟩
                        rw [hr] at HNX ⊢
                        clear hr
                        have z2 := HXI.out.cell 2 _ rfl
                        have p7 := HSI.out.box.cell 7 _ rfl
                        have p5 := HSI.out.box.cell 5 _ rfl
                        cases r with
                        | true =>
                          as_aux_lemma =>
                          go_wp2_with fail
                          have HQ : Veil (hadTo (stsM first l) l x a2.toNat v (q + 1) = true) := ⟨by rw [HNX.out]; rfl⟩
                          refine wp_region_X (fun w' => w'.cell? (sd.add q) = some (.slice (some ak) sq.length ck) ∧ w'.cell? (ak.add a2.toNat) = some (.int .i64 y) ∧ w'.cell? ⟨bA, 2, none⟩ = some (.int .i64 a2) ∧ w'.cell? ⟨w4.heap.size, 7, none⟩ = some (.bool x.f7) ∧ w'.cell? ⟨w4.heap.size, 5, none⟩ = some (.int .i64 x.f5)) [] (by kernel_rfl) ?_
                          have hS0 := And.intro s0 (And.intro y0 (And.intro z2 (And.intro p7 p5)))
                          refine wpAnyX_take3 (i := 0) (v := ?_) rfl (by kernel_rfl) (by kernel_rfl) (by kernel_rfl) (by kernel_rfl) (fun _ _ _ h => h) (Or.inl ⟨by rfl, ?_⟩) (by assumption) ?_
                          rotate_left 1
                          · intro w hSw; (try dsimp only at hSw); go_split_ands; (first | (go_simp; done) | (go_simp; with_reducible rfl))
                          try simp only [Act.put, List.getElem_toArray, List.getElem_cons_zero, List.getElem_cons_succ, List.setIfInBounds_toArray, List.set_cons_zero, List.set_cons_succ]
                          refine wpAnyX_take3 (i := 1) (v := ?_) rfl (by kernel_rfl) (by kernel_rfl) (by kernel_rfl) (by kernel_rfl) (fun _ _ _ h => h) (Or.inl ⟨by rfl, ?_⟩) (by assumption) ?_
                          rotate_left 1
                          · intro w hSw; (try dsimp only at hSw); go_split_ands; (first | (go_simp; done) | (go_simp; with_reducible rfl))
                          try simp only [Act.put, List.getElem_toArray, List.getElem_cons_zero, List.getElem_cons_succ, List.setIfInBounds_toArray, List.set_cons_zero, List.set_cons_succ]
                          refine wpAnyX_take3 (i := 2) (v := undef) rfl (by kernel_rfl) (by kernel_rfl) (by kernel_rfl) (by kernel_rfl) (fun _ _ _ h => h) (Or.inr ⟨by rfl, rfl⟩) (by assumption) ?_
                          try simp only [Act.put, List.getElem_toArray, List.getElem_cons_zero, List.getElem_cons_succ, List.setIfInBounds_toArray, List.set_cons_zero, List.set_cons_succ]
                          refine wpAnyX_take3 (i := 3) (v := undef) rfl (by kernel_rfl) (by kernel_rfl) (by kernel_rfl) (by kernel_rfl) (fun _ _ _ h => h) (Or.inr ⟨by rfl, rfl⟩) (by assumption) ?_
                          try simp only [Act.put, List.getElem_toArray, List.getElem_cons_zero, List.getElem_cons_succ, List.setIfInBounds_toArray, List.set_cons_zero, List.set_cons_succ]
                          refine wpAnyX_take3 (i := 4) (v := undef) rfl (by kernel_rfl) (by kernel_rfl) (by kernel_rfl) (by kernel_rfl) (fun _ _ _ h => h) (Or.inr ⟨by rfl, rfl⟩) (by assumption) ?_
                          try simp only [Act.put, List.getElem_toArray, List.getElem_cons_zero, List.getElem_cons_succ, List.setIfInBounds_toArray, List.set_cons_zero, List.set_cons_succ]
                          refine wpAnyX_take3 (i := 5) (v := undef) rfl (by kernel_rfl) (by kernel_rfl) (by kernel_rfl) (by kernel_rfl) (fun _ _ _ h => h) (Or.inr ⟨by rfl, rfl⟩) (by assumption) ?_
                          try simp only [Act.put, List.getElem_toArray, List.getElem_cons_zero, List.getElem_cons_succ, List.setIfInBounds_toArray, List.set_cons_zero, List.set_cons_succ]
                          refine wpAnyX_take3 (i := 6) (v := undef) rfl (by kernel_rfl) (by kernel_rfl) (by kernel_rfl) (by kernel_rfl) (fun _ _ _ h => h) (Or.inr ⟨by rfl, rfl⟩) (by assumption) ?_
                          try simp only [Act.put, List.getElem_toArray, List.getElem_cons_zero, List.getElem_cons_succ, List.setIfInBounds_toArray, List.set_cons_zero, List.set_cons_succ]
                          refine wpAnyX_take3 (i := 7) (v := undef) rfl (by kernel_rfl) (by kernel_rfl) (by kernel_rfl) (by kernel_rfl) (fun _ _ _ h => h) (Or.inr ⟨by rfl, rfl⟩) (by assumption) ?_
                          try simp only [Act.put, List.getElem_toArray, List.getElem_cons_zero, List.getElem_cons_succ, List.setIfInBounds_toArray, List.set_cons_zero, List.set_cons_succ]
                          refine wpAnyX_take3 (i := 8) (v := undef) rfl (by kernel_rfl) (by kernel_rfl) (by kernel_rfl) (by kernel_rfl) (fun _ _ _ h => h) (Or.inr ⟨by rfl, rfl⟩) (by assumption) ?_
                          try simp only [Act.put, List.getElem_toArray, List.getElem_cons_zero, List.getElem_cons_succ, List.setIfInBounds_toArray, List.set_cons_zero, List.set_cons_succ]
                          refine wpAnyX_take3 (i := 9) (v := undef) rfl (by kernel_rfl) (by kernel_rfl) (by kernel_rfl) (by kernel_rfl) (fun _ _ _ h => h) (Or.inr ⟨by rfl, rfl⟩) (by assumption) ?_
                          try simp only [Act.put, List.getElem_toArray, List.getElem_cons_zero, List.getElem_cons_succ, List.setIfInBounds_toArray, List.set_cons_zero, List.set_cons_succ]
                          refine wpAnyX_take3 (i := 10) (v := undef) rfl (by kernel_rfl) (by kernel_rfl) (by kernel_rfl) (by kernel_rfl) (fun _ _ _ h => h) (Or.inr ⟨by rfl, rfl⟩) (by assumption) ?_
                          try simp only [Act.put, List.getElem_toArray, List.getElem_cons_zero, List.getElem_cons_succ, List.setIfInBounds_toArray, List.set_cons_zero, List.set_cons_succ]
                          refine wpAnyX_take3 (i := 11) (v := undef) rfl (by kernel_rfl) (by kernel_rfl) (by kernel_rfl) (by kernel_rfl) (fun _ _ _ h => h) (Or.inr ⟨by rfl, rfl⟩) (by assumption) ?_
                          try simp only [Act.put, List.getElem_toArray, List.getElem_cons_zero, List.getElem_cons_succ, List.setIfInBounds_toArray, List.set_cons_zero, List.set_cons_succ]
                          refine wpAnyX_take3 (i := 12) (v := undef) rfl (by kernel_rfl) (by kernel_rfl) (by kernel_rfl) (by kernel_rfl) (fun _ _ _ h => h) (Or.inr ⟨by rfl, rfl⟩) (by assumption) ?_
                          try simp only [Act.put, List.getElem_toArray, List.getElem_cons_zero, List.getElem_cons_succ, List.setIfInBounds_toArray, List.set_cons_zero, List.set_cons_succ]
                          refine wpAnyX_take3 (i := 13) (v := undef) rfl (by kernel_rfl) (by kernel_rfl) (by kernel_rfl) (by kernel_rfl) (fun _ _ _ h => h) (Or.inr ⟨by rfl, rfl⟩) (by assumption) ?_
                          try simp only [Act.put, List.getElem_toArray, List.getElem_cons_zero, List.getElem_cons_succ, List.setIfInBounds_toArray, List.set_cons_zero, List.set_cons_succ]
                          refine wpAnyX_take3 (i := 14) (v := undef) rfl (by kernel_rfl) (by kernel_rfl) (by kernel_rfl) (by kernel_rfl) (fun _ _ _ h => h) (Or.inr ⟨by rfl, rfl⟩) (by assumption) ?_
                          try simp only [Act.put, List.getElem_toArray, List.getElem_cons_zero, List.getElem_cons_succ, List.setIfInBounds_toArray, List.set_cons_zero, List.set_cons_succ]
                          refine wpAnyX_take3 (i := 15) (v := undef) rfl (by kernel_rfl) (by kernel_rfl) (by kernel_rfl) (by kernel_rfl) (fun _ _ _ h => h) (Or.inr ⟨by rfl, rfl⟩) (by assumption) ?_
                          try simp only [Act.put, List.getElem_toArray, List.getElem_cons_zero, List.getElem_cons_succ, List.setIfInBounds_toArray, List.set_cons_zero, List.set_cons_succ]
                          refine wpAnyX_take3 (i := 16) (v := undef) rfl (by kernel_rfl) (by kernel_rfl) (by kernel_rfl) (by kernel_rfl) (fun _ _ _ h => h) (Or.inr ⟨by rfl, rfl⟩) (by assumption) ?_
                          try simp only [Act.put, List.getElem_toArray, List.getElem_cons_zero, List.getElem_cons_succ, List.setIfInBounds_toArray, List.set_cons_zero, List.set_cons_succ]
                          refine wpAnyX_take3 (i := 17) (v := undef) rfl (by kernel_rfl) (by kernel_rfl) (by kernel_rfl) (by kernel_rfl) (fun _ _ _ h => h) (Or.inr ⟨by rfl, rfl⟩) (by assumption) ?_
                          try simp only [Act.put, List.getElem_toArray, List.getElem_cons_zero, List.getElem_cons_succ, List.setIfInBounds_toArray, List.set_cons_zero, List.set_cons_succ]
                          refine wpAnyX_take3 (i := 18) (v := undef) rfl (by kernel_rfl) (by kernel_rfl) (by kernel_rfl) (by kernel_rfl) (fun _ _ _ h => h) (Or.inr ⟨by rfl, rfl⟩) (by assumption) ?_
                          try simp only [Act.put, List.getElem_toArray, List.getElem_cons_zero, List.getElem_cons_succ, List.setIfInBounds_toArray, List.set_cons_zero, List.set_cons_succ]
                          refine wpAnyX_take3 (i := 19) (v := undef) rfl (by kernel_rfl) (by kernel_rfl) (by kernel_rfl) (by kernel_rfl) (fun _ _ _ h => h) (Or.inr ⟨by rfl, rfl⟩) (by assumption) ?_
                          try simp only [Act.put, List.getElem_toArray, List.getElem_cons_zero, List.getElem_cons_succ, List.setIfInBounds_toArray, List.set_cons_zero, List.set_cons_succ]
                          refine wpAnyX_take3 (i := 20) (v := undef) rfl (by kernel_rfl) (by kernel_rfl) (by kernel_rfl) (by kernel_rfl) (fun _ _ _ h => h) (Or.inr ⟨by rfl, rfl⟩) (by assumption) ?_
                          try simp only [Act.put, List.getElem_toArray, List.getElem_cons_zero, List.getElem_cons_succ, List.setIfInBounds_toArray, List.set_cons_zero, List.set_cons_succ]
                          refine wpAnyX_take3 (i := 21) (v := undef) rfl (by kernel_rfl) (by kernel_rfl) (by kernel_rfl) (by kernel_rfl) (fun _ _ _ h => h) (Or.inr ⟨by rfl, rfl⟩) (by assumption) ?_
                          try simp only [Act.put, List.getElem_toArray, List.getElem_cons_zero, List.getElem_cons_succ, List.setIfInBounds_toArray, List.set_cons_zero, List.set_cons_succ]
                          refine wpAnyX_take3 (i := 22) (v := undef) rfl (by kernel_rfl) (by kernel_rfl) (by kernel_rfl) (by kernel_rfl) (fun _ _ _ h => h) (Or.inr ⟨by rfl, rfl⟩) (by assumption) ?_
                          try simp only [Act.put, List.getElem_toArray, List.getElem_cons_zero, List.getElem_cons_succ, List.setIfInBounds_toArray, List.set_cons_zero, List.set_cons_succ]
                          refine wpAnyX_take3 (i := 23) (v := undef) rfl (by kernel_rfl) (by kernel_rfl) (by kernel_rfl) (by kernel_rfl) (fun _ _ _ h => h) (Or.inr ⟨by rfl, rfl⟩) (by assumption) ?_
                          try simp only [Act.put, List.getElem_toArray, List.getElem_cons_zero, List.getElem_cons_succ, List.setIfInBounds_toArray, List.set_cons_zero, List.set_cons_succ]
                          refine wpAnyX_take3 (i := 24) (v := undef) rfl (by kernel_rfl) (by kernel_rfl) (by kernel_rfl) (by kernel_rfl) (fun _ _ _ h => h) (Or.inr ⟨by rfl, rfl⟩) (by assumption) ?_
                          try simp only [Act.put, List.getElem_toArray, List.getElem_cons_zero, List.getElem_cons_succ, List.setIfInBounds_toArray, List.set_cons_zero, List.set_cons_succ]
                          refine wpAnyX_take3 (i := 25) (v := ?_) rfl (by kernel_rfl) (by kernel_rfl) (by kernel_rfl) (by kernel_rfl) (fun _ _ _ h => h) (Or.inl ⟨by rfl, ?_⟩) (by assumption) ?_
                          rotate_left 1
                          · intro w hSw; (try dsimp only at hSw); go_split_ands; (first | (go_simp; done) | (go_simp; with_reducible rfl))
                          try simp only [Act.put, List.getElem_toArray, List.getElem_cons_zero, List.getElem_cons_succ, List.setIfInBounds_toArray, List.set_cons_zero, List.set_cons_succ]
                          refine wpAnyX_take3 (i := 26) (v := ?_) rfl (by kernel_rfl) (by kernel_rfl) (by kernel_rfl) (by kernel_rfl) (fun _ _ _ h => h) (Or.inl ⟨by rfl, ?_⟩) (by assumption) ?_
                          rotate_left 1
                          · intro w hSw; (try dsimp only at hSw); go_split_ands; (first | (go_simp; done) | (go_simp; with_reducible rfl))
                          try simp only [Act.put, List.getElem_toArray, List.getElem_cons_zero, List.getElem_cons_succ, List.setIfInBounds_toArray, List.set_cons_zero, List.set_cons_succ]
                          clear hS0
                          refine wpAnyX_done (by kernel_rfl) ?_ _
                          try simp only [Act.put, List.getElem_toArray, List.getElem_cons_zero, List.getElem_cons_succ, List.setIfInBounds_toArray, List.set_cons_zero, List.set_cons_succ]
                          have HSN := Veil.mk (HSI.out.step (Below.refl wr.heap.size wr).drew)
                          have HXN := Veil.mk (HXI.out.below (Below.refl wr.heap.size wr).drew HXI.out.lt)
                          clear s0 y0 z2 p7 p5
                          go_wp2
                          exact ⟨⟨q + 1, by omega, by go_num, by rw [HQ.out], HSN, HXN⟩, by simp [intOf]; omega⟩
                        | false =>
                          by_cases hyv : y = v
                          · have m5 : (y == v) = true := beq_iff_eq.2 hyv
                            clear hyv
                            cases h7 : x.f7 with
                            | false =>
                              as_aux_lemma =>
                              go_wp2_with fail
                              rw [h7] at p7
                              have HQ : Veil (hadTo (stsM first l) l x a2.toNat v (q + 1) = true) := ⟨by rw [HNX.out, HAT.out, m5, h7]; rfl⟩
                              clear h7
                              refine wp_region_X (fun w' => w'.cell? (sd.add q) = some (.slice (some ak) sq.length ck) ∧ w'.cell? (ak.add a2.toNat) = some (.int .i64 y) ∧ w'.cell? ⟨bA, 2, none⟩ = some (.int .i64 a2) ∧ w'.cell? ⟨w4.heap.size, 7, none⟩ = some (.bool false) ∧ w'.cell? ⟨w4.heap.size, 5, none⟩ = some (.int .i64 x.f5)) [] (by kernel_rfl) ?_
                              have hS0 := And.intro s0 (And.intro y0 (And.intro z2 (And.intro p7 p5)))
                              refine wpAnyX_take3 (i := 0) (v := ?_) rfl (by kernel_rfl) (by kernel_rfl) (by kernel_rfl) (by kernel_rfl) (fun _ _ _ h => h) (Or.inl ⟨by rfl, ?_⟩) (by assumption) ?_
                              rotate_left 1
                              · intro w hSw; (try dsimp only at hSw); go_split_ands; (first | (go_simp; done) | (go_simp; with_reducible rfl))
                              try simp only [Act.put, List.getElem_toArray, List.getElem_cons_zero, List.getElem_cons_succ, List.setIfInBounds_toArray, List.set_cons_zero, List.set_cons_succ]
                              refine wpAnyX_take3 (i := 1) (v := ?_) rfl (by kernel_rfl) (by kernel_rfl) (by kernel_rfl) (by kernel_rfl) (fun _ _ _ h => h) (Or.inl ⟨by rfl, ?_⟩) (by assumption) ?_
                              rotate_left 1
                              · intro w hSw; (try dsimp only at hSw); go_split_ands; (first | (go_simp; done) | (go_simp; with_reducible rfl))
                              try simp only [Act.put, List.getElem_toArray, List.getElem_cons_zero, List.getElem_cons_succ, List.setIfInBounds_toArray, List.set_cons_zero, List.set_cons_succ]
                              refine wpAnyX_take3 (i := 2) (v := ?_) rfl (by kernel_rfl) (by kernel_rfl) (by kernel_rfl) (by kernel_rfl) (fun _ _ _ h => h) (Or.inl ⟨by rfl, ?_⟩) (by assumption) ?_
                              rotate_left 1
                              · intro w hSw; (try dsimp only at hSw); go_split_ands; (first | (go_simp; done) | (go_simp; with_reducible rfl))
                              try simp only [Act.put, List.getElem_toArray, List.getElem_cons_zero, List.getElem_cons_succ, List.setIfInBounds_toArray, List.set_cons_zero, List.set_cons_succ]
                              refine wpAnyX_take3 (i := 3) (v := ?_) rfl (by kernel_rfl) (by kernel_rfl) (by kernel_rfl) (by kernel_rfl) (fun _ _ _ h => h) (Or.inl ⟨by rfl, ?_⟩) (by assumption) ?_
                              rotate_left 1
                              · intro w hSw; (try dsimp only at hSw); go_split_ands; (first | (go_simp; done) | (go_simp; with_reducible rfl))
                              try simp only [Act.put, List.getElem_toArray, List.getElem_cons_zero, List.getElem_cons_succ, List.setIfInBounds_toArray, List.set_cons_zero, List.set_cons_succ]
                              refine wpAnyX_take3 (i := 4) (v := ?_) rfl (by kernel_rfl) (by kernel_rfl) (by kernel_rfl) (by kernel_rfl) (fun _ _ _ h => h) (Or.inl ⟨by rfl, ?_⟩) (by assumption) ?_
                              rotate_left 1
                              · intro w hSw; (try dsimp only at hSw); go_split_ands; (first | (go_simp; done) | (go_simp; with_reducible rfl))
                              try simp only [Act.put, List.getElem_toArray, List.getElem_cons_zero, List.getElem_cons_succ, List.setIfInBounds_toArray, List.set_cons_zero, List.set_cons_succ]
                              refine wpAnyX_take3 (i := 5) (v := ?_) rfl (by kernel_rfl) (by kernel_rfl) (by kernel_rfl) (by kernel_rfl) (fun _ _ _ h => h) (Or.inl ⟨by rfl, ?_⟩) (by assumption) ?_
                              rotate_left 1
                              · intro w hSw; (try dsimp only at hSw); go_split_ands; (first | (go_simp; done) | (go_simp; with_reducible rfl))
                              try simp only [Act.put, List.getElem_toArray, List.getElem_cons_zero, List.getElem_cons_succ, List.setIfInBounds_toArray, List.set_cons_zero, List.set_cons_succ]
                              refine wpAnyX_take3 (i := 6) (v := ?_) rfl (by kernel_rfl) (by kernel_rfl) (by kernel_rfl) (by kernel_rfl) (fun _ _ _ h => h) (Or.inl ⟨by rfl, ?_⟩) (by assumption) ?_
                              rotate_left 1
                              · intro w hSw; (try dsimp only at hSw); go_split_ands; (first | (go_simp; done) | (go_simp; with_reducible rfl))
                              try simp only [Act.put, List.getElem_toArray, List.getElem_cons_zero, List.getElem_cons_succ, List.setIfInBounds_toArray, List.set_cons_zero, List.set_cons_succ]
                              refine wpAnyX_take3 (i := 7) (v := ?_) rfl (by kernel_rfl) (by kernel_rfl) (by kernel_rfl) (by kernel_rfl) (fun _ _ _ h => h) (Or.inl ⟨by rfl, ?_⟩) (by assumption) ?_
                              rotate_left 1
                              · intro w hSw; (try dsimp only at hSw); go_split_ands; (first | (go_simp; done) | (go_simp; with_reducible rfl))
                              try simp only [Act.put, List.getElem_toArray, List.getElem_cons_zero, List.getElem_cons_succ, List.setIfInBounds_toArray, List.set_cons_zero, List.set_cons_succ]
                              refine wpAnyX_take3 (i := 8) (v := ?_) rfl (by kernel_rfl) (by kernel_rfl) (by kernel_rfl) (by kernel_rfl) (fun _ _ _ h => h) (Or.inl ⟨by rfl, ?_⟩) (by assumption) ?_
                              rotate_left 1
                              · intro w hSw; (try dsimp only at hSw); go_split_ands; (first | (go_simp; done) | (go_simp; with_reducible rfl))
                              try simp only [Act.put, List.getElem_toArray, List.getElem_cons_zero, List.getElem_cons_succ, List.setIfInBounds_toArray, List.set_cons_zero, List.set_cons_succ]
                              refine wpAnyX_take3 (i := 9) (v := ?_) rfl (by kernel_rfl) (by kernel_rfl) (by kernel_rfl) (by kernel_rfl) (fun _ _ _ h => h) (Or.inl ⟨by rfl, ?_⟩) (by assumption) ?_
                              rotate_left 1
                              · intro w hSw; (try dsimp only at hSw); go_split_ands; (first | (go_simp; done) | (go_simp; with_reducible rfl))
                              try simp only [Act.put, List.getElem_toArray, List.getElem_cons_zero, List.getElem_cons_succ, List.setIfInBounds_toArray, List.set_cons_zero, List.set_cons_succ]
                              refine wpAnyX_take3 (i := 10) (v := ?_) rfl (by kernel_rfl) (by kernel_rfl) (by kernel_rfl) (by kernel_rfl) (fun _ _ _ h => h) (Or.inl ⟨by rfl, ?_⟩) (by assumption) ?_
                              rotate_left 1
                              · intro w hSw; (try dsimp only at hSw); go_split_ands; (first | (go_simp; done) | (go_simp; with_reducible rfl))
                              try simp only [Act.put, List.getElem_toArray, List.getElem_cons_zero, List.getElem_cons_succ, List.setIfInBounds_toArray, List.set_cons_zero, List.set_cons_succ]
                              refine wpAnyX_take3 (i := 11) (v := ?_) rfl (by kernel_rfl) (by kernel_rfl) (by kernel_rfl) (by kernel_rfl) (fun _ _ _ h => h) (Or.inl ⟨by rfl, ?_⟩) (by assumption) ?_
                              rotate_left 1
                              · intro w hSw; (try dsimp only at hSw); go_split_ands; (first | (go_simp; done) | (go_simp; with_reducible rfl))
                              try simp only [Act.put, List.getElem_toArray, List.getElem_cons_zero, List.getElem_cons_succ, List.setIfInBounds_toArray, List.set_cons_zero, List.set_cons_succ]
                              refine wpAnyX_take3 (i := 12) (v := ?_) rfl (by kernel_rfl) (by kernel_rfl) (by kernel_rfl) (by kernel_rfl) (fun _ _ _ h => h) (Or.inl ⟨by rfl, ?_⟩) (by assumption) ?_
                              rotate_left 1
                              · intro w hSw; (try dsimp only at hSw); go_split_ands; (first | (go_simp; done) | (go_simp; with_reducible rfl))
                              try simp only [Act.put, List.getElem_toArray, List.getElem_cons_zero, List.getElem_cons_succ, List.setIfInBounds_toArray, List.set_cons_zero, List.set_cons_succ]
                              refine wpAnyX_take3 (i := 13) (v := ?_) rfl (by kernel_rfl) (by kernel_rfl) (by kernel_rfl) (by kernel_rfl) (fun _ _ _ h => h) (Or.inl ⟨by rfl, ?_⟩) (by assumption) ?_
                              rotate_left 1
                              · intro w hSw; (try dsimp only at hSw); go_split_ands; (first | (go_simp; done) | (go_simp; with_reducible rfl))
                              try simp only [Act.put, List.getElem_toArray, List.getElem_cons_zero, List.getElem_cons_succ, List.setIfInBounds_toArray, List.set_cons_zero, List.set_cons_succ]
                              refine wpAnyX_take3 (i := 14) (v := ?_) rfl (by kernel_rfl) (by kernel_rfl) (by kernel_rfl) (by kernel_rfl) (fun _ _ _ h => h) (Or.inl ⟨by rfl, ?_⟩) (by assumption) ?_
                              rotate_left 1
                              · intro w hSw; (try dsimp only at hSw); go_split_ands; (first | (go_simp; done) | (go_simp; with_reducible rfl))
                              try simp only [Act.put, List.getElem_toArray, List.getElem_cons_zero, List.getElem_cons_succ, List.setIfInBounds_toArray, List.set_cons_zero, List.set_cons_succ]
                              refine wpAnyX_take3 (i := 15) (v := ?_) rfl (by kernel_rfl) (by kernel_rfl) (by kernel_rfl) (by kernel_rfl) (fun _ _ _ h => h) (Or.inl ⟨by rfl, ?_⟩) (by assumption) ?_
                              rotate_left 1
                              · intro w hSw; (try dsimp only at hSw); go_split_ands; (first | (go_simp; done) | (go_simp; with_reducible rfl))
                              try simp only [Act.put, List.getElem_toArray, List.getElem_cons_zero, List.getElem_cons_succ, List.setIfInBounds_toArray, List.set_cons_zero, List.set_cons_succ]
                              refine wpAnyX_take3 (i := 16) (v := ?_) rfl (by kernel_rfl) (by kernel_rfl) (by kernel_rfl) (by kernel_rfl) (fun _ _ _ h => h) (Or.inl ⟨by rfl, ?_⟩) (by assumption) ?_
                              rotate_left 1
                              · intro w hSw; (try dsimp only at hSw); go_split_ands; (first | (go_simp; done) | (go_simp; with_reducible rfl))
                              try simp only [Act.put, List.getElem_toArray, List.getElem_cons_zero, List.getElem_cons_succ, List.setIfInBounds_toArray, List.set_cons_zero, List.set_cons_succ]
                              refine wpAnyX_take3 (i := 17) (v := undef) rfl (by kernel_rfl) (by kernel_rfl) (by kernel_rfl) (by kernel_rfl) (fun _ _ _ h => h) (Or.inr ⟨by rfl, rfl⟩) (by assumption) ?_
                              try simp only [Act.put, List.getElem_toArray, List.getElem_cons_zero, List.getElem_cons_succ, List.setIfInBounds_toArray, List.set_cons_zero, List.set_cons_succ]
                              refine wpAnyX_take3 (i := 18) (v := undef) rfl (by kernel_rfl) (by kernel_rfl) (by kernel_rfl) (by kernel_rfl) (fun _ _ _ h => h) (Or.inr ⟨by rfl, rfl⟩) (by assumption) ?_
                              try simp only [Act.put, List.getElem_toArray, List.getElem_cons_zero, List.getElem_cons_succ, List.setIfInBounds_toArray, List.set_cons_zero, List.set_cons_succ]
                              refine wpAnyX_take3 (i := 19) (v := undef) rfl (by kernel_rfl) (by kernel_rfl) (by kernel_rfl) (by kernel_rfl) (fun _ _ _ h => h) (Or.inr ⟨by rfl, rfl⟩) (by assumption) ?_
                              try simp only [Act.put, List.getElem_toArray, List.getElem_cons_zero, List.getElem_cons_succ, List.setIfInBounds_toArray, List.set_cons_zero, List.set_cons_succ]
                              refine wpAnyX_take3 (i := 20) (v := undef) rfl (by kernel_rfl) (by kernel_rfl) (by kernel_rfl) (by kernel_rfl) (fun _ _ _ h => h) (Or.inr ⟨by rfl, rfl⟩) (by assumption) ?_
                              try simp only [Act.put, List.getElem_toArray, List.getElem_cons_zero, List.getElem_cons_succ, List.setIfInBounds_toArray, List.set_cons_zero, List.set_cons_succ]
                              refine wpAnyX_take3 (i := 21) (v := undef) rfl (by kernel_rfl) (by kernel_rfl) (by kernel_rfl) (by kernel_rfl) (fun _ _ _ h => h) (Or.inr ⟨by rfl, rfl⟩) (by assumption) ?_
                              try simp only [Act.put, List.getElem_toArray, List.getElem_cons_zero, List.getElem_cons_succ, List.setIfInBounds_toArray, List.set_cons_zero, List.set_cons_succ]
                              refine wpAnyX_take3 (i := 22) (v := undef) rfl (by kernel_rfl) (by kernel_rfl) (by kernel_rfl) (by kernel_rfl) (fun _ _ _ h => h) (Or.inr ⟨by rfl, rfl⟩) (by assumption) ?_
                              try simp only [Act.put, List.getElem_toArray, List.getElem_cons_zero, List.getElem_cons_succ, List.setIfInBounds_toArray, List.set_cons_zero, List.set_cons_succ]
                              refine wpAnyX_take3 (i := 23) (v := ?_) rfl (by kernel_rfl) (by kernel_rfl) (by kernel_rfl) (by kernel_rfl) (fun _ _ _ h => h) (Or.inl ⟨by rfl, ?_⟩) (by assumption) ?_
                              rotate_left 1
                              · intro w hSw; (try dsimp only at hSw); go_split_ands; (first | (go_simp; done) | (go_simp; with_reducible rfl))
                              try simp only [Act.put, List.getElem_toArray, List.getElem_cons_zero, List.getElem_cons_succ, List.setIfInBounds_toArray, List.set_cons_zero, List.set_cons_succ]
                              refine wpAnyX_take3 (i := 24) (v := ?_) rfl (by kernel_rfl) (by kernel_rfl) (by kernel_rfl) (by kernel_rfl) (fun _ _ _ h => h) (Or.inl ⟨by rfl, ?_⟩) (by assumption) ?_
                              rotate_left 1
                              · intro w hSw; (try dsimp only at hSw); go_split_ands; (first | (go_simp; done) | (go_simp; with_reducible rfl))
                              try simp only [Act.put, List.getElem_toArray, List.getElem_cons_zero, List.getElem_cons_succ, List.setIfInBounds_toArray, List.set_cons_zero, List.set_cons_succ]
                              refine wpAnyX_take3 (i := 25) (v := ?_) rfl (by kernel_rfl) (by kernel_rfl) (by kernel_rfl) (by kernel_rfl) (fun _ _ _ h => h) (Or.inl ⟨by rfl, ?_⟩) (by assumption) ?_
                              rotate_left 1
                              · intro w hSw; (try dsimp only at hSw); go_split_ands; (first | (go_simp; done) | (go_simp; with_reducible rfl))
                              try simp only [Act.put, List.getElem_toArray, List.getElem_cons_zero, List.getElem_cons_succ, List.setIfInBounds_toArray, List.set_cons_zero, List.set_cons_succ]
                              refine wpAnyX_take3 (i := 26) (v := ?_) rfl (by kernel_rfl) (by kernel_rfl) (by kernel_rfl) (by kernel_rfl) (fun _ _ _ h => h) (Or.inl ⟨by rfl, ?_⟩) (by assumption) ?_
                              rotate_left 1
                              · intro w hSw; (try dsimp only at hSw); go_split_ands; (first | (go_simp; done) | (go_simp; with_reducible rfl))
                              try simp only [Act.put, List.getElem_toArray, List.getElem_cons_zero, List.getElem_cons_succ, List.setIfInBounds_toArray, List.set_cons_zero, List.set_cons_succ]
                              clear hS0
                              refine wpAnyX_done (by kernel_rfl) ?_ _
                              try simp only [Act.put, List.getElem_toArray, List.getElem_cons_zero, List.getElem_cons_succ, List.setIfInBounds_toArray, List.set_cons_zero, List.set_cons_succ]
                              have HSN := Veil.mk (HSI.out.step (Below.refl wr.heap.size wr).drew)
                              have HXN := Veil.mk (HXI.out.below (Below.refl wr.heap.size wr).drew HXI.out.lt)
                              clear s0 y0 z2 p7 p5
                              go_wp2
                              exact ⟨⟨q + 1, by omega, by go_num, by rw [HQ.out], HSN, HXN⟩, by simp [intOf]; omega⟩
                            | true =>
                              as_aux_lemma =>
                              go_wp2_with fail
                              rw [h7] at p7
                              have HH7 := Veil.mk h7
                              clear h7
                              refine wp_region_X (fun w' => w'.cell? (sd.add q) = some (.slice (some ak) sq.length ck) ∧ w'.cell? (ak.add a2.toNat) = some (.int .i64 y) ∧ w'.cell? ⟨bA, 2, none⟩ = some (.int .i64 a2) ∧ w'.cell? ⟨w4.heap.size, 7, none⟩ = some (.bool true) ∧ w'.cell? ⟨w4.heap.size, 5, none⟩ = some (.int .i64 x.f5)) [] (by kernel_rfl) ?_
                              have hS0 := And.intro s0 (And.intro y0 (And.intro z2 (And.intro p7 p5)))
                              refine wpAnyX_take3 (i := 0) (v := ?_) rfl (by kernel_rfl) (by kernel_rfl) (by kernel_rfl) (by kernel_rfl) (fun _ _ _ h => h) (Or.inl ⟨by rfl, ?_⟩) (by assumption) ?_
                              rotate_left 1
                              · intro w hSw; (try dsimp only at hSw); go_split_ands; (first | (go_simp; done) | (go_simp; with_reducible rfl))
                              try simp only [Act.put, List.getElem_toArray, List.getElem_cons_zero, List.getElem_cons_succ, List.setIfInBounds_toArray, List.set_cons_zero, List.set_cons_succ]
                              refine wpAnyX_take3 (i := 1) (v := ?_) rfl (by kernel_rfl) (by kernel_rfl) (by kernel_rfl) (by kernel_rfl) (fun _ _ _ h => h) (Or.inl ⟨by rfl, ?_⟩) (by assumption) ?_
                              rotate_left 1
                              · intro w hSw; (try dsimp only at hSw); go_split_ands; (first | (go_simp; done) | (go_simp; with_reducible rfl))
                              try simp only [Act.put, List.getElem_toArray, List.getElem_cons_zero, List.getElem_cons_succ, List.setIfInBounds_toArray, List.set_cons_zero, List.set_cons_succ]
                              refine wpAnyX_take3 (i := 2) (v := ?_) rfl (by kernel_rfl) (by kernel_rfl) (by kernel_rfl) (by kernel_rfl) (fun _ _ _ h => h) (Or.inl ⟨by rfl, ?_⟩) (by assumption) ?_
                              rotate_left 1
                              · intro w hSw; (try dsimp only at hSw); go_split_ands; (first | (go_simp; done) | (go_simp; with_reducible rfl))
                              try simp only [Act.put, List.getElem_toArray, List.getElem_cons_zero, List.getElem_cons_succ, List.setIfInBounds_toArray, List.set_cons_zero, List.set_cons_succ]
                              refine wpAnyX_take3 (i := 3) (v := ?_) rfl (by kernel_rfl) (by kernel_rfl) (by kernel_rfl) (by kernel_rfl) (fun _ _ _ h => h) (Or.inl ⟨by rfl, ?_⟩) (by assumption) ?_
                              rotate_left 1
                              · intro w hSw; (try dsimp only at hSw); go_split_ands; (first | (go_simp; done) | (go_simp; with_reducible rfl))
                              try simp only [Act.put, List.getElem_toArray, List.getElem_cons_zero, List.getElem_cons_succ, List.setIfInBounds_toArray, List.set_cons_zero, List.set_cons_succ]
                              refine wpAnyX_take3 (i := 4) (v := ?_) rfl (by kernel_rfl) (by kernel_rfl) (by kernel_rfl) (by kernel_rfl) (fun _ _ _ h => h) (Or.inl ⟨by rfl, ?_⟩) (by assumption) ?_
                              rotate_left 1
                              · intro w hSw; (try dsimp only at hSw); go_split_ands; (first | (go_simp; done) | (go_simp; with_reducible rfl))
                              try simp only [Act.put, List.getElem_toArray, List.getElem_cons_zero, List.getElem_cons_succ, List.setIfInBounds_toArray, List.set_cons_zero, List.set_cons_succ]
                              refine wpAnyX_take3 (i := 5) (v := ?_) rfl (by kernel_rfl) (by kernel_rfl) (by kernel_rfl) (by kernel_rfl) (fun _ _ _ h => h) (Or.inl ⟨by rfl, ?_⟩) (by assumption) ?_
                              rotate_left 1
                              · intro w hSw; (try dsimp only at hSw); go_split_ands; (first | (go_simp; done) | (go_simp; with_reducible rfl))
                              try simp only [Act.put, List.getElem_toArray, List.getElem_cons_zero, List.getElem_cons_succ, List.setIfInBounds_toArray, List.set_cons_zero, List.set_cons_succ]
                              refine wpAnyX_take3 (i := 6) (v := ?_) rfl (by kernel_rfl) (by kernel_rfl) (by kernel_rfl) (by kernel_rfl) (fun _ _ _ h => h) (Or.inl ⟨by rfl, ?_⟩) (by assumption) ?_
                              rotate_left 1
                              · intro w hSw; (try dsimp only at hSw); go_split_ands; (first | (go_simp; done) | (go_simp; with_reducible rfl))
                              try simp only [Act.put, List.getElem_toArray, List.getElem_cons_zero, List.getElem_cons_succ, List.setIfInBounds_toArray, List.set_cons_zero, List.set_cons_succ]
                              refine wpAnyX_take3 (i := 7) (v := ?_) rfl (by kernel_rfl) (by kernel_rfl) (by kernel_rfl) (by kernel_rfl) (fun _ _ _ h => h) (Or.inl ⟨by rfl, ?_⟩) (by assumption) ?_
                              rotate_left 1
                              · intro w hSw; (try dsimp only at hSw); go_split_ands; (first | (go_simp; done) | (go_simp; with_reducible rfl))
                              try simp only [Act.put, List.getElem_toArray, List.getElem_cons_zero, List.getElem_cons_succ, List.setIfInBounds_toArray, List.set_cons_zero, List.set_cons_succ]
                              refine wpAnyX_take3 (i := 8) (v := ?_) rfl (by kernel_rfl) (by kernel_rfl) (by kernel_rfl) (by kernel_rfl) (fun _ _ _ h => h) (Or.inl ⟨by rfl, ?_⟩) (by assumption) ?_
                              rotate_left 1
                              · intro w hSw; (try dsimp only at hSw); go_split_ands; (first | (go_simp; done) | (go_simp; with_reducible rfl))
                              try simp only [Act.put, List.getElem_toArray, List.getElem_cons_zero, List.getElem_cons_succ, List.setIfInBounds_toArray, List.set_cons_zero, List.set_cons_succ]
                              refine wpAnyX_take3 (i := 9) (v := ?_) rfl (by kernel_rfl) (by kernel_rfl) (by kernel_rfl) (by kernel_rfl) (fun _ _ _ h => h) (Or.inl ⟨by rfl, ?_⟩) (by assumption) ?_
                              rotate_left 1
                              · intro w hSw; (try dsimp only at hSw); go_split_ands; (first | (go_simp; done) | (go_simp; with_reducible rfl))
                              try simp only [Act.put, List.getElem_toArray, List.getElem_cons_zero, List.getElem_cons_succ, List.setIfInBounds_toArray, List.set_cons_zero, List.set_cons_succ]
                              refine wpAnyX_take3 (i := 10) (v := ?_) rfl (by kernel_rfl) (by kernel_rfl) (by kernel_rfl) (by kernel_rfl) (fun _ _ _ h => h) (Or.inl ⟨by rfl, ?_⟩) (by assumption) ?_
                              rotate_left 1
                              · intro w hSw; (try dsimp only at hSw); go_split_ands; (first | (go_simp; done) | (go_simp; with_reducible rfl))
                              try simp only [Act.put, List.getElem_toArray, List.getElem_cons_zero, List.getElem_cons_succ, List.setIfInBounds_toArray, List.set_cons_zero, List.set_cons_succ]
                              refine wpAnyX_take3 (i := 11) (v := ?_) rfl (by kernel_rfl) (by kernel_rfl) (by kernel_rfl) (by kernel_rfl) (fun _ _ _ h => h) (Or.inl ⟨by rfl, ?_⟩) (by assumption) ?_
                              rotate_left 1
                              · intro w hSw; (try dsimp only at hSw); go_split_ands; (first | (go_simp; done) | (go_simp; with_reducible rfl))
                              try simp only [Act.put, List.getElem_toArray, List.getElem_cons_zero, List.getElem_cons_succ, List.setIfInBounds_toArray, List.set_cons_zero, List.set_cons_succ]
                              refine wpAnyX_take3 (i := 12) (v := ?_) rfl (by kernel_rfl) (by kernel_rfl) (by kernel_rfl) (by kernel_rfl) (fun _ _ _ h => h) (Or.inl ⟨by rfl, ?_⟩) (by assumption) ?_
                              rotate_left 1
                              · intro w hSw; (try dsimp only at hSw); go_split_ands; (first | (go_simp; done) | (go_simp; with_reducible rfl))
                              try simp only [Act.put, List.getElem_toArray, List.getElem_cons_zero, List.getElem_cons_succ, List.setIfInBounds_toArray, List.set_cons_zero, List.set_cons_succ]
                              refine wpAnyX_take3 (i := 13) (v := ?_) rfl (by kernel_rfl) (by kernel_rfl) (by kernel_rfl) (by kernel_rfl) (fun _ _ _ h => h) (Or.inl ⟨by rfl, ?_⟩) (by assumption) ?_
                              rotate_left 1
                              · intro w hSw; (try dsimp only at hSw); go_split_ands; (first | (go_simp; done) | (go_simp; with_reducible rfl))
                              try simp only [Act.put, List.getElem_toArray, List.getElem_cons_zero, List.getElem_cons_succ, List.setIfInBounds_toArray, List.set_cons_zero, List.set_cons_succ]
                              refine wpAnyX_take3 (i := 14) (v := ?_) rfl (by kernel_rfl) (by kernel_rfl) (by kernel_rfl) (by kernel_rfl) (fun _ _ _ h => h) (Or.inl ⟨by rfl, ?_⟩) (by assumption) ?_
                              rotate_left 1
                              · intro w hSw; (try dsimp only at hSw); go_split_ands; (first | (go_simp; done) | (go_simp; with_reducible rfl))
                              try simp only [Act.put, List.getElem_toArray, List.getElem_cons_zero, List.getElem_cons_succ, List.setIfInBounds_toArray, List.set_cons_zero, List.set_cons_succ]
                              refine wpAnyX_take3 (i := 15) (v := ?_) rfl (by kernel_rfl) (by kernel_rfl) (by kernel_rfl) (by kernel_rfl) (fun _ _ _ h => h) (Or.inl ⟨by rfl, ?_⟩) (by assumption) ?_
                              rotate_left 1
                              · intro w hSw; (try dsimp only at hSw); go_split_ands; (first | (go_simp; done) | (go_simp; with_reducible rfl))
                              try simp only [Act.put, List.getElem_toArray, List.getElem_cons_zero, List.getElem_cons_succ, List.setIfInBounds_toArray, List.set_cons_zero, List.set_cons_succ]
                              refine wpAnyX_take3 (i := 16) (v := ?_) rfl (by kernel_rfl) (by kernel_rfl) (by kernel_rfl) (by kernel_rfl) (fun _ _ _ h => h) (Or.inl ⟨by rfl, ?_⟩) (by assumption) ?_
                              rotate_left 1
                              · intro w hSw; (try dsimp only at hSw); go_split_ands; (first | (go_simp; done) | (go_simp; with_reducible rfl))
                              try simp only [Act.put, List.getElem_toArray, List.getElem_cons_zero, List.getElem_cons_succ, List.setIfInBounds_toArray, List.set_cons_zero, List.set_cons_succ]
                              refine wpAnyX_take3 (i := 17) (v := ?_) rfl (by kernel_rfl) (by kernel_rfl) (by kernel_rfl) (by kernel_rfl) (fun _ _ _ h => h) (Or.inl ⟨by rfl, ?_⟩) (by assumption) ?_
                              rotate_left 1
                              · intro w hSw; (try dsimp only at hSw); go_split_ands; (first | (go_simp; done) | (go_simp; with_reducible rfl))
                              try simp only [Act.put, List.getElem_toArray, List.getElem_cons_zero, List.getElem_cons_succ, List.setIfInBounds_toArray, List.set_cons_zero, List.set_cons_succ]
                              refine wpAnyX_take3 (i := 18) (v := ?_) rfl (by kernel_rfl) (by kernel_rfl) (by kernel_rfl) (by kernel_rfl) (fun _ _ _ h => h) (Or.inl ⟨by rfl, ?_⟩) (by assumption) ?_
                              rotate_left 1
                              · intro w hSw; (try dsimp only at hSw); go_split_ands; (first | (go_simp; done) | (go_simp; with_reducible rfl))
                              try simp only [Act.put, List.getElem_toArray, List.getElem_cons_zero, List.getElem_cons_succ, List.setIfInBounds_toArray, List.set_cons_zero, List.set_cons_succ]
                              refine wpAnyX_take3 (i := 19) (v := ?_) rfl (by kernel_rfl) (by kernel_rfl) (by kernel_rfl) (by kernel_rfl) (fun _ _ _ h => h) (Or.inl ⟨by rfl, ?_⟩) (by assumption) ?_
                              rotate_left 1
                              · intro w hSw; (try dsimp only at hSw); go_split_ands; (first | (go_simp; done) | (go_simp; with_reducible rfl))
                              try simp only [Act.put, List.getElem_toArray, List.getElem_cons_zero, List.getElem_cons_succ, List.setIfInBounds_toArray, List.set_cons_zero, List.set_cons_succ]
                              refine wpAnyX_take3 (i := 20) (v := ?_) rfl (by kernel_rfl) (by kernel_rfl) (by kernel_rfl) (by kernel_rfl) (fun _ _ _ h => h) (Or.inl ⟨by rfl, ?_⟩) (by assumption) ?_
                              rotate_left 1
                              · intro w hSw; (try dsimp only at hSw); go_split_ands; (first | (go_simp; done) | (go_simp; with_reducible rfl))
                              try simp only [Act.put, List.getElem_toArray, List.getElem_cons_zero, List.getElem_cons_succ, List.setIfInBounds_toArray, List.set_cons_zero, List.set_cons_succ]
                              clear hS0
                              have HX0 := Veil.mk (Below.refl wr.heap.size wr).drew
                              refine wpAnyX_one (i := 21) (by kernel_rfl) rfl (fun K hK => ?_)
                              go_simp
                              refine (HBE.out _ (below_of HSI.out.below HX0.out) x.f5).mono ?_
                              rintro e1 w8 ⟨rfl, hb8⟩
                              have HX8 := Veil.mk (HX0.out.trans hb8)
                              have eC : ∀ o u, wr.cell? o = some u → w8.cell? o = some u := fun o u hu => (HX8.out.cell (p := o) (World.block_lt_of_cell? wr _ hu)).trans hu
                              have hS8 := And.intro (eC _ _ s0) (And.intro (eC _ _ y0) (And.intro (eC _ _ z2) (And.intro (eC _ _ p7) (eC _ _ p5))))
                              clear hb8 eC
                              obtain ⟨bf, hbf⟩ : ∃ n, beforeM l x.f5 = n := ⟨_, rfl⟩
                              rw [hbf] at HAT ⊢
                              clear hbf
                              dsimp only
                              refine hK.out _ _ (fun _ => hS8) ?_
                              clear hK K
                              try simp only [Act.put, List.getElem_toArray, List.getElem_cons_zero, List.getElem_cons_succ, List.setIfInBounds_toArray, List.set_cons_zero, List.set_cons_succ]
                              refine wpAnyX_take3 (i := 22) (v := ?_) rfl (by kernel_rfl) (by kernel_rfl) (by kernel_rfl) (by kernel_rfl) (fun _ _ _ h => h) (Or.inl ⟨by rfl, ?_⟩) (by assumption) ?_
                              rotate_left 1
                              · intro w hSw; (try dsimp only at hSw); go_split_ands; (first | (go_simp; done) | (go_simp; with_reducible rfl))
                              try simp only [Act.put, List.getElem_toArray, List.getElem_cons_zero, List.getElem_cons_succ, List.setIfInBounds_toArray, List.set_cons_zero, List.set_cons_succ]
                              refine wpAnyX_take3 (i := 23) (v := ?_) rfl (by kernel_rfl) (by kernel_rfl) (by kernel_rfl) (by kernel_rfl) (fun _ _ _ h => h) (Or.inl ⟨by rfl, ?_⟩) (by assumption) ?_
                              rotate_left 1
                              · intro w hSw; (try dsimp only at hSw); go_split_ands; (first | (go_simp; done) | (go_simp; with_reducible rfl))
                              try simp only [Act.put, List.getElem_toArray, List.getElem_cons_zero, List.getElem_cons_succ, List.setIfInBounds_toArray, List.set_cons_zero, List.set_cons_succ]
                              refine wpAnyX_take3 (i := 24) (v := ?_) rfl (by kernel_rfl) (by kernel_rfl) (by kernel_rfl) (by kernel_rfl) (fun _ _ _ h => h) (Or.inl ⟨by rfl, ?_⟩) (by assumption) ?_
                              rotate_left 1
                              · intro w hSw; (try dsimp only at hSw); go_split_ands; (first | (go_simp; done) | (go_simp; with_reducible rfl))
                              try simp only [Act.put, List.getElem_toArray, List.getElem_cons_zero, List.getElem_cons_succ, List.setIfInBounds_toArray, List.set_cons_zero, List.set_cons_succ]
                              refine wpAnyX_take3 (i := 25) (v := ?_) rfl (by kernel_rfl) (by kernel_rfl) (by kernel_rfl) (by kernel_rfl) (fun _ _ _ h => h) (Or.inl ⟨by rfl, ?_⟩) (by assumption) ?_
                              rotate_left 1
                              · intro w hSw; (try dsimp only at hSw); go_split_ands; (first | (go_simp; done) | (go_simp; with_reducible rfl))
                              try simp only [Act.put, List.getElem_toArray, List.getElem_cons_zero, List.getElem_cons_succ, List.setIfInBounds_toArray, List.set_cons_zero, List.set_cons_succ]
                              refine wpAnyX_take3 (i := 26) (v := ?_) rfl (by kernel_rfl) (by kernel_rfl) (by kernel_rfl) (by kernel_rfl) (fun _ _ _ h => h) (Or.inl ⟨by rfl, ?_⟩) (by assumption) ?_
                              rotate_left 1
                              · intro w hSw; (try dsimp only at hSw); go_split_ands; (first | (go_simp; done) | (go_simp; with_reducible rfl))
                              try simp only [Act.put, List.getElem_toArray, List.getElem_cons_zero, List.getElem_cons_succ, List.setIfInBounds_toArray, List.set_cons_zero, List.set_cons_succ]
                              clear hS8
                              refine wpAnyX_done (by kernel_rfl) ?_ _
                              try simp only [Act.put, List.getElem_toArray, List.getElem_cons_zero, List.getElem_cons_succ, List.setIfInBounds_toArray, List.set_cons_zero, List.set_cons_succ]
                              have HSN := Veil.mk (HSI.out.step HX8.out)
                              have HXN := Veil.mk (HXI.out.below HX8.out HXI.out.lt)
                              clear s0 y0 z2 p7 p5
                              have HQ : Veil (hadTo (stsM first l) l x a2.toNat v (q + 1) = ((q : Int) == (bf : Int))) := ⟨by rw [HNX.out, HAT.out, m5, HH7.out]; simp⟩
                              go_wp2
                              exact ⟨⟨q + 1, by omega, by go_num, by rw [HQ.out], HSN, HXN⟩, by simp [intOf]; omega⟩
                          · as_aux_lemma =>
                            have m5 : (y == v) = false := beq_eq_false_iff_ne.2 hyv
                            clear hyv
                            go_wp2_with fail
                            have HQ : Veil (hadTo (stsM first l) l x a2.toNat v (q + 1) = false) := ⟨by rw [HNX.out, HAT.out, m5]; rfl⟩
                            refine wp_region_X (fun w' => w'.cell? (sd.add q) = some (.slice (some ak) sq.length ck) ∧ w'.cell? (ak.add a2.toNat) = some (.int .i64 y) ∧ w'.cell? ⟨bA, 2, none⟩ = some (.int .i64 a2) ∧ w'.cell? ⟨w4.heap.size, 7, none⟩ = some (.bool x.f7) ∧ w'.cell? ⟨w4.heap.size, 5, none⟩ = some (.int .i64 x.f5)) [] (by kernel_rfl) ?_
                            have hS0 := And.intro s0 (And.intro y0 (And.intro z2 (And.intro p7 p5)))
                            refine wpAnyX_take3 (i := 0) (v := ?_) rfl (by kernel_rfl) (by kernel_rfl) (by kernel_rfl) (by kernel_rfl) (fun _ _ _ h => h) (Or.inl ⟨by rfl, ?_⟩) (by assumption) ?_
                            rotate_left 1
                            · intro w hSw; (try dsimp only at hSw); go_split_ands; (first | (go_simp; done) | (go_simp; with_reducible rfl))
                            try simp only [Act.put, List.getElem_toArray, List.getElem_cons_zero, List.getElem_cons_succ, List.setIfInBounds_toArray, List.set_cons_zero, List.set_cons_succ]
                            refine wpAnyX_take3 (i := 1) (v := ?_) rfl (by kernel_rfl) (by kernel_rfl) (by kernel_rfl) (by kernel_rfl) (fun _ _ _ h => h) (Or.inl ⟨by rfl, ?_⟩) (by assumption) ?_
                            rotate_left 1
                            · intro w hSw; (try dsimp only at hSw); go_split_ands; (first | (go_simp; done) | (go_simp; with_reducible rfl))
                            try simp only [Act.put, List.getElem_toArray, List.getElem_cons_zero, List.getElem_cons_succ, List.setIfInBounds_toArray, List.set_cons_zero, List.set_cons_succ]
                            refine wpAnyX_take3 (i := 2) (v := ?_) rfl (by kernel_rfl) (by kernel_rfl) (by kernel_rfl) (by kernel_rfl) (fun _ _ _ h => h) (Or.inl ⟨by rfl, ?_⟩) (by assumption) ?_
                            rotate_left 1
                            · intro w hSw; (try dsimp only at hSw); go_split_ands; (first | (go_simp; done) | (go_simp; with_reducible rfl))
                            try simp only [Act.put, List.getElem_toArray, List.getElem_cons_zero, List.getElem_cons_succ, List.setIfInBounds_toArray, List.set_cons_zero, List.set_cons_succ]
                            refine wpAnyX_take3 (i := 3) (v := ?_) rfl (by kernel_rfl) (by kernel_rfl) (by kernel_rfl) (by kernel_rfl) (fun _ _ _ h => h) (Or.inl ⟨by rfl, ?_⟩) (by assumption) ?_
                            rotate_left 1
                            · intro w hSw; (try dsimp only at hSw); go_split_ands; (first | (go_simp; done) | (go_simp; with_reducible rfl))
                            try simp only [Act.put, List.getElem_toArray, List.getElem_cons_zero, List.getElem_cons_succ, List.setIfInBounds_toArray, List.set_cons_zero, List.set_cons_succ]
                            refine wpAnyX_take3 (i := 4) (v := ?_) rfl (by kernel_rfl) (by kernel_rfl) (by kernel_rfl) (by kernel_rfl) (fun _ _ _ h => h) (Or.inl ⟨by rfl, ?_⟩) (by assumption) ?_
                            rotate_left 1
                            · intro w hSw; (try dsimp only at hSw); go_split_ands; (first | (go_simp; done) | (go_simp; with_reducible rfl))
                            try simp only [Act.put, List.getElem_toArray, List.getElem_cons_zero, List.getElem_cons_succ, List.setIfInBounds_toArray, List.set_cons_zero, List.set_cons_succ]
                            refine wpAnyX_take3 (i := 5) (v := ?_) rfl (by kernel_rfl) (by kernel_rfl) (by kernel_rfl) (by kernel_rfl) (fun _ _ _ h => h) (Or.inl ⟨by rfl, ?_⟩) (by assumption) ?_
                            rotate_left 1
                            · intro w hSw; (try dsimp only at hSw); go_split_ands; (first | (go_simp; done) | (go_simp; with_reducible rfl))
                            try simp only [Act.put, List.getElem_toArray, List.getElem_cons_zero, List.getElem_cons_succ, List.setIfInBounds_toArray, List.set_cons_zero, List.set_cons_succ]
                            refine wpAnyX_take3 (i := 6) (v := ?_) rfl (by kernel_rfl) (by kernel_rfl) (by kernel_rfl) (by kernel_rfl) (fun _ _ _ h => h) (Or.inl ⟨by rfl, ?_⟩) (by assumption) ?_
                            rotate_left 1
                            · intro w hSw; (try dsimp only at hSw); go_split_ands; (first | (go_simp; done) | (go_simp; with_reducible rfl))
                            try simp only [Act.put, List.getElem_toArray, List.getElem_cons_zero, List.getElem_cons_succ, List.setIfInBounds_toArray, List.set_cons_zero, List.set_cons_succ]
                            refine wpAnyX_take3 (i := 7) (v := ?_) rfl (by kernel_rfl) (by kernel_rfl) (by kernel_rfl) (by kernel_rfl) (fun _ _ _ h => h) (Or.inl ⟨by rfl, ?_⟩) (by assumption) ?_
                            rotate_left 1
                            · intro w hSw; (try dsimp only at hSw); go_split_ands; (first | (go_simp; done) | (go_simp; with_reducible rfl))
                            try simp only [Act.put, List.getElem_toArray, List.getElem_cons_zero, List.getElem_cons_succ, List.setIfInBounds_toArray, List.set_cons_zero, List.set_cons_succ]
                            refine wpAnyX_take3 (i := 8) (v := ?_) rfl (by kernel_rfl) (by kernel_rfl) (by kernel_rfl) (by kernel_rfl) (fun _ _ _ h => h) (Or.inl ⟨by rfl, ?_⟩) (by assumption) ?_
                            rotate_left 1
                            · intro w hSw; (try dsimp only at hSw); go_split_ands; (first | (go_simp; done) | (go_simp; with_reducible rfl))
                            try simp only [Act.put, List.getElem_toArray, List.getElem_cons_zero, List.getElem_cons_succ, List.setIfInBounds_toArray, List.set_cons_zero, List.set_cons_succ]
                            refine wpAnyX_take3 (i := 9) (v := ?_) rfl (by kernel_rfl) (by kernel_rfl) (by kernel_rfl) (by kernel_rfl) (fun _ _ _ h => h) (Or.inl ⟨by rfl, ?_⟩) (by assumption) ?_
                            rotate_left 1
                            · intro w hSw; (try dsimp only at hSw); go_split_ands; (first | (go_simp; done) | (go_simp; with_reducible rfl))
                            try simp only [Act.put, List.getElem_toArray, List.getElem_cons_zero, List.getElem_cons_succ, List.setIfInBounds_toArray, List.set_cons_zero, List.set_cons_succ]
                            refine wpAnyX_take3 (i := 10) (v := ?_) rfl (by kernel_rfl) (by kernel_rfl) (by kernel_rfl) (by kernel_rfl) (fun _ _ _ h => h) (Or.inl ⟨by rfl, ?_⟩) (by assumption) ?_
                            rotate_left 1
                            · intro w hSw; (try dsimp only at hSw); go_split_ands; (first | (go_simp; done) | (go_simp; with_reducible rfl))
                            try simp only [Act.put, List.getElem_toArray, List.getElem_cons_zero, List.getElem_cons_succ, List.setIfInBounds_toArray, List.set_cons_zero, List.set_cons_succ]
                            refine wpAnyX_take3 (i := 11) (v := ?_) rfl (by kernel_rfl) (by kernel_rfl) (by kernel_rfl) (by kernel_rfl) (fun _ _ _ h => h) (Or.inl ⟨by rfl, ?_⟩) (by assumption) ?_
                            rotate_left 1
                            · intro w hSw; (try dsimp only at hSw); go_split_ands; (first | (go_simp; done) | (go_simp; with_reducible rfl))
                            try simp only [Act.put, List.getElem_toArray, List.getElem_cons_zero, List.getElem_cons_succ, List.setIfInBounds_toArray, List.set_cons_zero, List.set_cons_succ]
                            refine wpAnyX_take3 (i := 12) (v := ?_) rfl (by kernel_rfl) (by kernel_rfl) (by kernel_rfl) (by kernel_rfl) (fun _ _ _ h => h) (Or.inl ⟨by rfl, ?_⟩) (by assumption) ?_
                            rotate_left 1
                            · intro w hSw; (try dsimp only at hSw); go_split_ands; (first | (go_simp; done) | (go_simp; with_reducible rfl))
                            try simp only [Act.put, List.getElem_toArray, List.getElem_cons_zero, List.getElem_cons_succ, List.setIfInBounds_toArray, List.set_cons_zero, List.set_cons_succ]
                            refine wpAnyX_take3 (i := 13) (v := undef) rfl (by kernel_rfl) (by kernel_rfl) (by kernel_rfl) (by kernel_rfl) (fun _ _ _ h => h) (Or.inr ⟨by rfl, rfl⟩) (by assumption) ?_
                            try simp only [Act.put, List.getElem_toArray, List.getElem_cons_zero, List.getElem_cons_succ, List.setIfInBounds_toArray, List.set_cons_zero, List.set_cons_succ]
                            refine wpAnyX_take3 (i := 14) (v := undef) rfl (by kernel_rfl) (by kernel_rfl) (by kernel_rfl) (by kernel_rfl) (fun _ _ _ h => h) (Or.inr ⟨by rfl, rfl⟩) (by assumption) ?_
                            try simp only [Act.put, List.getElem_toArray, List.getElem_cons_zero, List.getElem_cons_succ, List.setIfInBounds_toArray, List.set_cons_zero, List.set_cons_succ]
                            refine wpAnyX_take3 (i := 15) (v := undef) rfl (by kernel_rfl) (by kernel_rfl) (by kernel_rfl) (by kernel_rfl) (fun _ _ _ h => h) (Or.inr ⟨by rfl, rfl⟩) (by assumption) ?_
                            try simp only [Act.put, List.getElem_toArray, List.getElem_cons_zero, List.getElem_cons_succ, List.setIfInBounds_toArray, List.set_cons_zero, List.set_cons_succ]
                            refine wpAnyX_take3 (i := 16) (v := undef) rfl (by kernel_rfl) (by kernel_rfl) (by kernel_rfl) (by kernel_rfl) (fun _ _ _ h => h) (Or.inr ⟨by rfl, rfl⟩) (by assumption) ?_
                            try simp only [Act.put, List.getElem_toArray, List.getElem_cons_zero, List.getElem_cons_succ, List.setIfInBounds_toArray, List.set_cons_zero, List.set_cons_succ]
                            refine wpAnyX_take3 (i := 17) (v := undef) rfl (by kernel_rfl) (by kernel_rfl) (by kernel_rfl) (by kernel_rfl) (fun _ _ _ h => h) (Or.inr ⟨by rfl, rfl⟩) (by assumption) ?_
                            try simp only [Act.put, List.getElem_toArray, List.getElem_cons_zero, List.getElem_cons_succ, List.setIfInBounds_toArray, List.set_cons_zero, List.set_cons_succ]
                            refine wpAnyX_take3 (i := 18) (v := undef) rfl (by kernel_rfl) (by kernel_rfl) (by kernel_rfl) (by kernel_rfl) (fun _ _ _ h => h) (Or.inr ⟨by rfl, rfl⟩) (by assumption) ?_
                            try simp only [Act.put, List.getElem_toArray, List.getElem_cons_zero, List.getElem_cons_succ, List.setIfInBounds_toArray, List.set_cons_zero, List.set_cons_succ]
                            refine wpAnyX_take3 (i := 19) (v := undef) rfl (by kernel_rfl) (by kernel_rfl) (by kernel_rfl) (by kernel_rfl) (fun _ _ _ h => h) (Or.inr ⟨by rfl, rfl⟩) (by assumption) ?_
                            try simp only [Act.put, List.getElem_toArray, List.getElem_cons_zero, List.getElem_cons_succ, List.setIfInBounds_toArray, List.set_cons_zero, List.set_cons_succ]
                            refine wpAnyX_take3 (i := 20) (v := undef) rfl (by kernel_rfl) (by kernel_rfl) (by kernel_rfl) (by kernel_rfl) (fun _ _ _ h => h) (Or.inr ⟨by rfl, rfl⟩) (by assumption) ?_
                            try simp only [Act.put, List.getElem_toArray, List.getElem_cons_zero, List.getElem_cons_succ, List.setIfInBounds_toArray, List.set_cons_zero, List.set_cons_succ]
                            refine wpAnyX_take3 (i := 21) (v := undef) rfl (by kernel_rfl) (by kernel_rfl) (by kernel_rfl) (by kernel_rfl) (fun _ _ _ h => h) (Or.inr ⟨by rfl, rfl⟩) (by assumption) ?_
                            try simp only [Act.put, List.getElem_toArray, List.getElem_cons_zero, List.getElem_cons_succ, List.setIfInBounds_toArray, List.set_cons_zero, List.set_cons_succ]
                            refine wpAnyX_take3 (i := 22) (v := undef) rfl (by kernel_rfl) (by kernel_rfl) (by kernel_rfl) (by kernel_rfl) (fun _ _ _ h => h) (Or.inr ⟨by rfl, rfl⟩) (by assumption) ?_
                            try simp only [Act.put, List.getElem_toArray, List.getElem_cons_zero, List.getElem_cons_succ, List.setIfInBounds_toArray, List.set_cons_zero, List.set_cons_succ]
                            refine wpAnyX_take3 (i := 23) (v := undef) rfl (by kernel_rfl) (by kernel_rfl) (by kernel_rfl) (by kernel_rfl) (fun _ _ _ h => h) (Or.inr ⟨by rfl, rfl⟩) (by assumption) ?_
                            try simp only [Act.put, List.getElem_toArray, List.getElem_cons_zero, List.getElem_cons_succ, List.setIfInBounds_toArray, List.set_cons_zero, List.set_cons_succ]
                            refine wpAnyX_take3 (i := 24) (v := ?_) rfl (by kernel_rfl) (by kernel_rfl) (by kernel_rfl) (by kernel_rfl) (fun _ _ _ h => h) (Or.inl ⟨by rfl, ?_⟩) (by assumption) ?_
                            rotate_left 1
                            · intro w hSw; (try dsimp only at hSw); go_split_ands; (first | (go_simp; done) | (go_simp; with_reducible rfl))
                            try simp only [Act.put, List.getElem_toArray, List.getElem_cons_zero, List.getElem_cons_succ, List.setIfInBounds_toArray, List.set_cons_zero, List.set_cons_succ]
                            refine wpAnyX_take3 (i := 25) (v := ?_) rfl (by kernel_rfl) (by kernel_rfl) (by kernel_rfl) (by kernel_rfl) (fun _ _ _ h => h) (Or.inl ⟨by rfl, ?_⟩) (by assumption) ?_
                            rotate_left 1
                            · intro w hSw; (try dsimp only at hSw); go_split_ands; (first | (go_simp; done) | (go_simp; with_reducible rfl))
                            try simp only [Act.put, List.getElem_toArray, List.getElem_cons_zero, List.getElem_cons_succ, List.setIfInBounds_toArray, List.set_cons_zero, List.set_cons_succ]
                            refine wpAnyX_take3 (i := 26) (v := ?_) rfl (by kernel_rfl) (by kernel_rfl) (by kernel_rfl) (by kernel_rfl) (fun _ _ _ h => h) (Or.inl ⟨by rfl, ?_⟩) (by assumption) ?_
                            rotate_left 1
                            · intro w hSw; (try dsimp only at hSw); go_split_ands; (first | (go_simp; done) | (go_simp; with_reducible rfl))
                            try simp only [Act.put, List.getElem_toArray, List.getElem_cons_zero, List.getElem_cons_succ, List.setIfInBounds_toArray, List.set_cons_zero, List.set_cons_succ]
                            clear hS0
                            refine wpAnyX_done (by kernel_rfl) ?_ _
                            try simp only [Act.put, List.getElem_toArray, List.getElem_cons_zero, List.getElem_cons_succ, List.setIfInBounds_toArray, List.set_cons_zero, List.set_cons_succ]
                            have HSN := Veil.mk (HSI.out.step (Below.refl wr.heap.size wr).drew)
                            have HXN := Veil.mk (HXI.out.below (Below.refl wr.heap.size wr).drew HXI.out.lt)
                            clear s0 y0 z2 p7 p5
                            go_wp2
                            exact ⟨⟨q + 1, by omega, by go_num, by rw [HQ.out], HSN, HXN⟩, by simp [intOf]; omega⟩
                      · as_aux_lemma =>
                        have d3 : decide ((q : Int) < ((stsM first l).length : Int)) = false := decide_eq_false (by omega)
                        have hqq : q = (stsM first l).length := by omega
                        subst hqq
                        cases hh : hadTo (stsM first l) l x a2.toNat v (stsM first l).length with
                        | true =>
                          clear hh
                          go_wp2
                          go_ret
                          exact ⟨rfl, HSI.out.below⟩
                        | false =>
                          have HNO := Veil.mk (had_no hh)
                          clear hh
                          obtain ⟨e, he, _⟩ := HGI.out.ev
                          dsimp only at he
                          obtain ⟨c0, _, c7, cr⟩ := HSPO.out i ⟨a0, a1, a2, a3, false, false⟩ HAI.out HE1.out rfl rfl HA2.out.1 HA2.out.2 v HNO.out he
                          dsimp only at c0 c7 cr
                          obtain ⟨p, rfl⟩ : ∃ p : Nat, a0 = (p : Int) := ⟨a0.toNat, by omega⟩
                          rw [Int.toNat_natCast] at he c7 cr
                          have hpl : p < l.length := (List.getElem?_eq_some_iff.1 he).1
                          have HCK2 : Veil (∀ (W : World) (A' : Option Addr) (c' : Nat), Below w.heap.size w W → kEv.C W A' l.length (l.set p (fixE v e)) → l.length ≤ c' → Calls Try.prog 47 #[.slice Av first.length cv, .slice A' l.length c'] W fun e w' => e = .returned (.tuple #[.int .i64 j, .int .i64 7]) ∧ Below W.heap.size W w') := ⟨fun W A' c' h hC' hc' => by
                            have hl : (l.set p (fixE v e)).length = l.length := by simp
                            have := check_any W A' c' (l.set p (fixE v e)) Av cv first (by rw [hl]; exact hC') (by rw [hl]; exact hc') (by rw [hl]; exact HL.out.1) (fix_ok HO.out p he v) (Kd.C_below HF.out h) HL.out.2
                            rw [c7, cr, hl] at this
                            exact this⟩
                          have hpl2 : (p : Int) < (l.length : Int) := by omega
                          have hl0 : 1 ≤ l.length := by omega
                          have HEE := Veil.mk he
                          clear he c0 c7 cr
                          have z0 := HXI.out.cell 0 _ rfl
                          have HCW := Veil.mk (Kd.C_below HC.out HSI.out.below)
                          go_wp2_with (first | ((with_reducible refine gate_dst (N := 123) rfl ?_); refine Kd.R_lit kEv _ 31 ?hg (N := 123) ?hd (xs := ([] : List Ev)) (inner := []) (ok := fun _ => True) (okp := fun _ => True) ?hr ?hp (fun _ hk => hk) trivial (Below.refl _ _) (Nat.le_refl _) (by simp) ?_; (case hd => rfl); (case hg => rfl); (case hr => first | (go_simp; done) | (go_simp; rfl)); (case hp => exact (Reps.none _ _)); intro v5 w4 ho5 hb hg_ hnew_; clear hg_ hnew_; have HO5 := Veil.mk ho5; have HB4 := Veil.mk hb; clear ho5 hb) | ((with_reducible refine gate_builtin (b := .append) (xs := #[.tmp 123, .tmp 124]) rfl ?_); at_builtin; refine Kd.R_append_rows kEv (Rr := kEv.K w4) (w0 := wr) wr.heap.size rfl (.tmp 123) (.tmp 124) 22 31 zEv 56 rfl Try.underlying22 infoEv rfl (by decide) (by omega) v5 [] l _ _ _ (fun _ => True) (fun _ => False) rfl rfl ?aO ?aR ?aK (fun _ h => h.elim) ?aF ?aB ?aS ?aL ?_; (case aR => exact Kd.C_below HCW.out HB4.out); (case aK => exact ev_KM); (case aB => exact HB4.out); (case aF => exact (fun _ _ => trivial)); (case aO => exact HO5.out); (case aS => exact HB4.out.size); (case aL => have := HL.out.1; simp; omega); intro v7 w6 ho hb hg hat; have ho' : kEv.R 31 w6 wr.heap.size (fun _ => True) v7 l := (by simpa using ho); obtain ⟨g, cap, rfl, hgb, _, _⟩ := Kd.R_form ho' (by omega); obtain ⟨z5, f5, _, hN⟩ := ev_put ho' p hpl HEE.out v; have hC7 := (Kd.R_reads' hN).2.2; rw [List.length_set] at hC7; have HC7 := Veil.mk hC7; clear hC7; have HCP := Veil.mk (Kd.R_reads' ho').2.1; have HB7 := Veil.mk (below_of HSI.out.below (hb.setCell (p := ⟨g, p * 7 + 5, none⟩) hgb (.int .i64 v))); have z06 := (hb.cell (p := ⟨bA, 0, none⟩) (World.block_lt_of_cell? wr _ z0)).trans z0; clear ho ho' hb hg hat hgb hN z0) | (go_at_call 47; go_must (refine (HCK2.out _ _ _ HB7.out HC7.out HCP.out).mono ?_; rintro ed w8 ⟨rfl, hb⟩; have HB8 := Veil.mk (below_of HB7.out hb); clear hb)))
                          go_ret
                          exact ⟨rfl, HB8.out⟩
          · have m1 : (a1 != 2) = true := by simp [e1]
            clear e1
            go_wp2
            exact ⟨⟨i + 1, by omega, by go_num, HSPN⟩, by simp [intOf]; omega⟩
        · as_aux_lemma =>
          have d1 : decide ((i : Int) < (x.f8.length : Int)) = false := decide_eq_false (by omega)
          go_wp2
          go_ret
          exact ⟨rfl, HSP.out.below⟩
  · have m0 : (errM first l != 0) = true := by simp [he]
    clear he
    go_enter Try.func17, Try.ntmps17
    go_wp2_with (first | (go_at_call 43; refine (alive19_any _).mono ?_; rintro ed w1 ⟨rfl, hb⟩; have HB := Veil.mk hb; clear hb) | (go_at_call 47; go_must (refine (HCK.out _ HB.out).mono ?_; rintro ed w2 ⟨rfl, hb⟩; have HB2 := Veil.mk (below_of HB.out hb); clear hb)))
    go_ret
    exact ⟨rfl, HB2.out⟩
end Go.Proofs.Ytjmnbbflahacoaa.Opq
