/- The document's Right, walked. No condition. -/
import Derived.Test.YtjmnbbflahacoaaRefX
import Derived.Test.YtjmnbbflahacoaaLate
namespace Go.Proofs.Ytjmnbbflahacoaa.Hist
open Go.RowKit Go.Proofs.Ytjmnbbflahacoaa.Mem Go.Proofs.Ytjmnbbflahacoaa.PHistTells Go.Proofs.YtjmnbbflahacoaaW.PrintWords
set_option linter.unusedVariables false
set_option linter.unusedSimpArgs false

theorem last_any (w : World) (A : Option Addr) (c : Nat) (l : List Ev) (hC : kEv.C w A l.length l) (hc : l.length ≤ c) (hl : l.length ≤ 1000000000) {n : Nat} {ts : List Tr} (hT : Tied l n ts) (hn : n ≤ l.length) (th : Int) :
    Calls Try.prog 54 #[.slice A l.length c, .int .i64 (n : Int), .int .i64 th] w fun e w' => e = .returned (.int .i64 (lastPlace ts th)) ∧ Below w.heap.size w w' :=
  (quarrelref17_last.calls _ A c l (n : Int) th _ w hC hc (last_tied hl hT hn th)).mono fun e w' h => ⟨h.1, h.2.below⟩
theorem openr_any (w : World) (A : Option Addr) (c : Nat) (l : List Ev) (hC : kEv.C w A l.length l) (hc : l.length ≤ c) (hl : l.length ≤ 1000000000) {n : Nat} {ts : List Tr} (hT : Tied l n ts) (hn : n ≤ l.length) (th : Int) :
    Calls Try.prog 55 #[.slice A l.length c, .int .i64 (lastPlace ts th), .int .i64 (n : Int)] w fun e w' => e = .returned (.bool (isOpen ts th)) ∧ Below w.heap.size w w' :=
  (quarrelref17_open.calls _ A c l _ (n : Int) _ w hC hc (open_tied hl hT hn th (l.length + 1) (Nat.le_refl _))).mono fun e w' h => ⟨h.1, h.2.below⟩
theorem own_at (w : World) (b e : Ev) : Calls Try.prog 56 #[.agg #[.int .i64 b.f0, .int .i64 b.f1, .int .i64 b.f2, .int .i64 b.f3, .int .i64 b.f4, .int .i64 b.f5, .int .i64 b.f6], .agg #[.int .i64 e.f0, .int .i64 e.f1, .int .i64 e.f2, .int .i64 e.f3, .int .i64 e.f4, .int .i64 e.f5, .int .i64 e.f6]] w fun ed w' => ed = .returned (.bool (ownB b e)) ∧ Below w.heap.size w w' := own_any w b e

set_option maxHeartbeats 16000000 in
set_option maxRecDepth 100000 in
theorem refright_any (w : World) (A : Option Addr) (c : Nat) (l : List Ev) (hC : kEv.C w A l.length l) (hc : l.length ≤ c) (hl : l.length ≤ 1000000000) :
    Calls Try.prog 24 #[.slice A l.length c] w fun e w' => e = .returned (.bool (rightM l)) ∧ Below w.heap.size w w' := by
  have HC := Veil.mk hC
  have HCC := Veil.mk hc
  have HL := Veil.mk hl
  clear hC hc hl
  go_enter Try.func24, Try.ntmps24
  go_wp2_with fail
  go_loopw [3] (fun v3 wr => ∃ i : Nat, i ≤ l.length ∧ v3 = .int .i64 i ∧ Veil (∃ ts, RightTo l i ts) ∧ Veil (Below w.heap.size w wr)) (fun v3 _ => l.length - (intOf v3).toNat)
  case atStart => exact ⟨0, Nat.zero_le _, rfl, ⟨[], RightTo.start l⟩, ⟨Below.refl _ _⟩⟩
  case round =>
    obtain ⟨i, hi, rfl, HR, HB⟩ := hrel
    have hll := HL.out
    by_cases hil : i < l.length
    · as_aux_lemma =>
      have d1 : decide ((i : Int) < (l.length : Int)) = true := decide_eq_true (by omega)
      have d2 : (i : Int) < (l.length : Int) := by omega
      obtain ⟨ts, hR⟩ := HR.out
      have HLA := Veil.mk (fun (W : World) (h : Below w.heap.size w W) (th : Int) => last_any W A c l (Kd.C_below HC.out h) HCC.out HL.out hR.tied hi th)
      have HOP := Veil.mk (fun (W : World) (h : Below w.heap.size w W) (th : Int) => openr_any W A c l (Kd.C_below HC.out h) HCC.out HL.out hR.tied hi th)
      have HST := Veil.mk (fun hd => hR.step hil hd)
      have HFA := Veil.mk (fun hd => hR.fall hil hd)
      have HOA := Veil.mk (fun (h : isOpen ts l[i].f1 = true) => ropen_at hR.tied hi h)
      have HAT := Veil.mk (hR.tied.att l[i].f1 l[i].f2)
      have HCN : Veil (countOf l[i].f1 l[i].f2 ts ≤ l.length) := ⟨by have h1 : countOf l[i].f1 l[i].f2 ts ≤ ts.length := List.countP_le_length; have h2 := hR.tied.len; omega⟩
      obtain ⟨ad, rfl, h0, h1, h2, h3, h4, h5, h6⟩ := ev_at (Kd.C_below HC.out HB.out) i hil
      obtain ⟨e, he⟩ : ∃ e, l[i] = e := ⟨_, rfl⟩
      rw [he] at h0 h1 h2 h3 h4 h5 h6 HST HFA HOA HAT HCN
      have HBX := Veil.mk (Blk.new wr #[.int .i64 e.f0, .int .i64 e.f1, .int .i64 e.f2, .int .i64 e.f3, .int .i64 e.f4, .int .i64 e.f5, .int .i64 e.f6] 31)
      have HB1 := Veil.mk (HB.out.alloc HB.out.size (.cells #[.int .i64 e.f0, .int .i64 e.f1, .int .i64 e.f2, .int .i64 e.f3, .int .i64 e.f4, .int .i64 e.f5, .int .i64 e.f6] 31))
      have hdoc : docOk l ts e = if e.f0 = 1 then !(isOpen ts e.f1) && (e.f3 == (countOf e.f1 e.f2 ts : Int) + 1)
          else if e.f0 = 7 then !(isOpen ts e.f1)
          else if 2 ≤ e.f0 ∧ e.f0 ≤ 6 then isOpen ts e.f1 && (match l[(lastPlace ts e.f1).toNat]? with
            | some b => b.f1 == e.f1 && b.f2 == e.f2 && b.f3 == e.f3
            | none => false)
          else false := rfl
      have HDO := Veil.mk hdoc
      obtain ⟨is, his⟩ : ∃ b, isOpen ts e.f1 = b := ⟨_, rfl⟩
      obtain ⟨pl, hpl⟩ : ∃ p, lastPlace ts e.f1 = p := ⟨_, rfl⟩
      obtain ⟨cn, hcn⟩ : ∃ n, countOf e.f1 e.f2 ts = n := ⟨_, rfl⟩
      have HLB : Veil (∀ W, Below w.heap.size w W → Calls Try.prog 54 #[.slice (some ad) l.length c, .int .i64 (i : Int), .int .i64 e.f1] W fun e w' => e = .returned (.int .i64 pl) ∧ Below W.heap.size W w') := ⟨fun W h => by rw [← hpl]; exact HLA.out W h e.f1⟩
      have HOB : Veil (∀ W, Below w.heap.size w W → Calls Try.prog 55 #[.slice (some ad) l.length c, .int .i64 pl, .int .i64 (i : Int)] W fun e w' => e = .returned (.bool is) ∧ Below W.heap.size W w') := ⟨fun W h => by rw [← hpl, ← his]; exact HOP.out W h e.f1⟩
      rw [his, hpl] at HOA
      rw [hcn] at HAT HCN
      rw [his, hpl, hcn] at HDO
      clear hdoc his hpl hcn he hR HLA HOP HR
      have HKC : Veil (∀ W, Below (wr.alloc (.cells #[.int .i64 e.f0, .int .i64 e.f1, .int .i64 e.f2, .int .i64 e.f3, .int .i64 e.f4, .int .i64 e.f5, .int .i64 e.f6] 31)).heap.size (wr.alloc (.cells #[.int .i64 e.f0, .int .i64 e.f1, .int .i64 e.f2, .int .i64 e.f3, .int .i64 e.f4, .int .i64 e.f5, .int .i64 e.f6] 31)) W → Below w.heap.size w W ∧ Blk W wr.heap.size 31 (evC e)) := ⟨fun W h => ⟨below_of HB1.out h, HBX.out.below h HBX.out.lt⟩⟩
      by_cases e1 : e.f0 = 1
      · have m1 : (e.f0 == 1) = true := beq_iff_eq.2 e1
        have HDX : Veil (docOk l ts e = (!is && (e.f3 == (cn : Int) + 1))) := ⟨by rw [HDO.out, if_pos e1]⟩
        clear e1 HDO HOA
        go_wp2_with (first | (go_at_call 54; go_must (refine (HLB.out _ HB1.out).mono ?_; rintro ed w3 ⟨rfl, hb⟩; have HB3 := Veil.mk hb; have HW3 := Veil.mk (HKC.out _ hb).1; clear hb)) | (go_at_call 55; go_must (refine (HOB.out _ HW3.out).mono ?_; rintro ed w4 ⟨rfl, hb⟩; have HB4 := Veil.mk (HB3.out.trans (hb.mono HB3.out.size)); obtain ⟨hw4, hbx⟩ := HKC.out _ HB4.out; have HW4 := Veil.mk hw4; have HX4 := Veil.mk hbx; obtain ⟨c0, c1, c2, c3, c4, c5, c6⟩ := ev_blk hbx; clear hb hw4 hbx)))
        clear c0 c1 c2 c3 c4 c5 c6
        go_loopw [7, 8] (fun v7 v8 wq => ∃ k : Nat, k ≤ i ∧ v8 = .int .i64 k ∧ v7 = .int .i64 (attB l e.f1 e.f2 k) ∧ Veil (Below w4.heap.size w4 wq)) (fun _ v8 _ => i - (intOf v8).toNat)
        case atStart => exact ⟨0, Nat.zero_le _, rfl, rfl, ⟨Below.refl _ _⟩⟩
        case round =>
          obtain ⟨k, hk, rfl, rfl, HQ⟩ := hrel
          have HWQ := Veil.mk (below_of HW4.out HQ.out)
          obtain ⟨c0, c1, c2, c3, c4, c5, c6⟩ := ev_blk (HX4.out.below HQ.out HX4.out.lt)
          by_cases hki : k < i
          · as_aux_lemma =>
            have d3 : decide ((k : Int) < (i : Int)) = true := decide_eq_true (by omega)
            have d4 : decide (k < i) = true := decide_eq_true hki
            have hkl : k < l.length := by omega
            have d5 : (k : Int) < (l.length : Int) := by omega
            obtain ⟨ad', hae, x0, x1, x2, x3, _, _, _⟩ := ev_at (Kd.C_below HC.out HWQ.out) k hkl
            injection hae with hae
            subst hae
            have HAN := Veil.mk (attB_next (l := l) (th := e.f1) (tx := e.f2) hkl)
            obtain ⟨x, hx⟩ : ∃ x, l[k] = x := ⟨_, rfl⟩
            rw [hx] at x0 x1 x2 x3 HAN
            obtain ⟨q, hq⟩ : ∃ q, attB l e.f1 e.f2 k = q := ⟨_, rfl⟩
            rw [hq] at HAN ⊢
            clear hx hq
            have HQN := Veil.mk (fun n => below_of HQ.out ((Below.refl wr.heap.size wr).drewN n))
            by_cases a1 : x.f0 = 1
            · have n1 : (x.f0 == 1) = true := beq_iff_eq.2 a1
              by_cases a2 : x.f1 = e.f1
              · have n2 : (x.f1 == e.f1) = true := beq_iff_eq.2 a2
                by_cases a3 : x.f2 = e.f2
                · have n3 : (x.f2 == e.f2) = true := beq_iff_eq.2 a3
                  have HA2 : Veil (attB l e.f1 e.f2 (k + 1) = x.f3) := ⟨by rw [HAN.out, if_pos ⟨a1, a2, a3⟩]⟩
                  have HX3 := Veil.mk (fun n => ((Below.refl wr.heap.size wr).drewN n).cell (p := ⟨(ad.add (k * 7)).block, (ad.add (k * 7)).off + 3, none⟩) (World.block_lt_of_cell? wr _ x3) |>.trans x3)
                  clear a1 a2 a3 HAN
                  go_wp2_with fail
                  go_quiet (fail)
                  go_wp2
                  exact ⟨⟨k + 1, by omega, by go_num, by rw [HA2.out], ⟨HQN.out _⟩⟩, by simp [intOf]; omega⟩
                · have n3 : (x.f2 == e.f2) = false := beq_eq_false_iff_ne.2 a3
                  have HA2 : Veil (attB l e.f1 e.f2 (k + 1) = q) := ⟨by rw [HAN.out, if_neg (fun h => a3 h.2.2)]⟩
                  clear a1 a2 a3 HAN
                  go_wp2_with fail
                  go_quiet (fail)
                  go_wp2
                  exact ⟨⟨k + 1, by omega, by go_num, by rw [HA2.out], ⟨HQN.out _⟩⟩, by simp [intOf]; omega⟩
              · have n2 : (x.f1 == e.f1) = false := beq_eq_false_iff_ne.2 a2
                have HA2 : Veil (attB l e.f1 e.f2 (k + 1) = q) := ⟨by rw [HAN.out, if_neg (fun h => a2 h.2.1)]⟩
                clear a1 a2 HAN
                go_wp2_with fail
                go_quiet (fail)
                go_wp2
                exact ⟨⟨k + 1, by omega, by go_num, by rw [HA2.out], ⟨HQN.out _⟩⟩, by simp [intOf]; omega⟩
            · have n1 : (x.f0 == 1) = false := beq_eq_false_iff_ne.2 a1
              have HA2 : Veil (attB l e.f1 e.f2 (k + 1) = q) := ⟨by rw [HAN.out, if_neg (fun h => a1 h.1)]⟩
              clear a1 HAN
              go_wp2_with fail
              go_quiet (fail)
              go_wp2
              exact ⟨⟨k + 1, by omega, by go_num, by rw [HA2.out], ⟨HQN.out _⟩⟩, by simp [intOf]; omega⟩
          · as_aux_lemma =>
            have d3 : decide ((k : Int) < (i : Int)) = false := decide_eq_false (by omega)
            have d4 : decide (k < i) = false := decide_eq_false hki
            have hki2 : k = i := by omega
            have hat : attB l e.f1 e.f2 k = (cn : Int) := by rw [hki2]; exact HAT.out
            rw [hat]
            have hcn := HCN.out
            clear hki2 hat
            cases is with
            | true =>
              have HQ0 : Veil (rightM l = false) := ⟨HFA.out (by rw [HDX.out]; rfl)⟩
              go_wp2
              go_ret
              exact ⟨by rw [HQ0.out]; rfl, HWQ.out⟩
            | false =>
              by_cases a3 : e.f3 = (cn : Int) + 1
              · have n3 : (e.f3 != (cn : Int) + 1) = false := by simp [a3]
                have HN := Veil.mk (HST.out (by rw [HDX.out, a3]; simp))
                clear a3
                go_wp2
                exact ⟨⟨i + 1, by omega, by go_num, HN, HWQ⟩, by simp [intOf]; omega⟩
              · have n3 : (e.f3 != (cn : Int) + 1) = true := by simp [a3]
                have HQ0 : Veil (rightM l = false) := ⟨HFA.out (by rw [HDX.out]; simp [a3])⟩
                clear a3
                go_wp2
                go_ret
                exact ⟨by rw [HQ0.out]; rfl, HWQ.out⟩
      have m1 : (e.f0 == 1) = false := beq_eq_false_iff_ne.2 e1
      by_cases e7 : e.f0 = 7
      · have m7 : (e.f0 == 7) = true := beq_iff_eq.2 e7
        have HDX : Veil (docOk l ts e = !is) := ⟨by rw [HDO.out, if_neg e1, if_pos e7]⟩
        clear e1 e7 HDO HOA HAT
        cases is with
        | true =>
          have HQ0 : Veil (rightM l = false) := ⟨HFA.out (by rw [HDX.out]; rfl)⟩
          go_wp2_with (first | (go_at_call 54; go_must (refine (HLB.out _ HB1.out).mono ?_; rintro ed w3 ⟨rfl, hb⟩; have HB3 := Veil.mk hb; have HW3 := Veil.mk (HKC.out _ hb).1; clear hb)) | (go_at_call 55; go_must (refine (HOB.out _ HW3.out).mono ?_; rintro ed w4 ⟨rfl, hb⟩; have HB4 := Veil.mk (HB3.out.trans (hb.mono HB3.out.size)); obtain ⟨hw4, hbx⟩ := HKC.out _ HB4.out; have HW4 := Veil.mk hw4; have HX4 := Veil.mk hbx; obtain ⟨c0, c1, c2, c3, c4, c5, c6⟩ := ev_blk hbx; clear hb hw4 hbx)))
          go_ret
          exact ⟨by rw [HQ0.out]; rfl, HW4.out⟩
        | false =>
          have HN := Veil.mk (HST.out (by rw [HDX.out]; rfl))
          go_wp2_with (first | (go_at_call 54; go_must (refine (HLB.out _ HB1.out).mono ?_; rintro ed w3 ⟨rfl, hb⟩; have HB3 := Veil.mk hb; have HW3 := Veil.mk (HKC.out _ hb).1; clear hb)) | (go_at_call 55; go_must (refine (HOB.out _ HW3.out).mono ?_; rintro ed w4 ⟨rfl, hb⟩; have HB4 := Veil.mk (HB3.out.trans (hb.mono HB3.out.size)); obtain ⟨hw4, hbx⟩ := HKC.out _ HB4.out; have HW4 := Veil.mk hw4; have HX4 := Veil.mk hbx; obtain ⟨c0, c1, c2, c3, c4, c5, c6⟩ := ev_blk hbx; clear hb hw4 hbx)))
          exact ⟨⟨i + 1, by omega, by go_num, HN, HW4⟩, by simp [intOf]; omega⟩
      have m7 : (e.f0 == 7) = false := beq_eq_false_iff_ne.2 e7
      by_cases e26 : 2 ≤ e.f0 ∧ e.f0 ≤ 6
      · have m2 : decide (2 ≤ e.f0) = true := decide_eq_true e26.1
        have m6 : decide (e.f0 ≤ 6) = true := decide_eq_true e26.2
        cases is with
        | false =>
          have HQ0 : Veil (rightM l = false) := ⟨HFA.out (by rw [HDO.out, if_neg e1, if_neg e7, if_pos e26]; rfl)⟩
          clear e1 e7 e26 HDO HOA HAT
          go_wp2_with (first | (go_at_call 54; go_must (refine (HLB.out _ HB1.out).mono ?_; rintro ed w3 ⟨rfl, hb⟩; have HB3 := Veil.mk hb; have HW3 := Veil.mk (HKC.out _ hb).1; clear hb)) | (go_at_call 55; go_must (refine (HOB.out _ HW3.out).mono ?_; rintro ed w4 ⟨rfl, hb⟩; have HB4 := Veil.mk (HB3.out.trans (hb.mono HB3.out.size)); obtain ⟨hw4, hbx⟩ := HKC.out _ HB4.out; have HW4 := Veil.mk hw4; have HX4 := Veil.mk hbx; obtain ⟨c0, c1, c2, c3, c4, c5, c6⟩ := ev_blk hbx; clear hb hw4 hbx)))
          clear c0 c1 c2 c3 c4 c5 c6
          go_quiet (fail)
          go_wp2
          go_ret
          exact ⟨by rw [HQ0.out]; rfl, HW4.out.drewN _⟩
        | true =>
          obtain ⟨b, hbl, hbe⟩ := HOA.out rfl
          subst hbe
          have HDX : Veil (docOk l ts e = ownB l[b] e) := ⟨by rw [HDO.out, if_neg e1, if_neg e7, if_pos e26, Int.toNat_natCast, List.getElem?_eq_getElem hbl]; unfold ownB; simp only [Bool.true_and, Bool.and_assoc]⟩
          have hbl2 : (b : Int) < (l.length : Int) := by omega
          clear e1 e7 e26 HDO HOA HAT
          go_wp2_with (first | (go_at_call 54; go_must (refine (HLB.out _ HB1.out).mono ?_; rintro ed w3 ⟨rfl, hb⟩; have HB3 := Veil.mk hb; have HW3 := Veil.mk (HKC.out _ hb).1; clear hb)) | (go_at_call 55; go_must (refine (HOB.out _ HW3.out).mono ?_; rintro ed w4 ⟨rfl, hb⟩; have HB4 := Veil.mk (HB3.out.trans (hb.mono HB3.out.size)); obtain ⟨hw4, hbx⟩ := HKC.out _ HB4.out; have HW4 := Veil.mk hw4; have HX4 := Veil.mk hbx; obtain ⟨c0, c1, c2, c3, c4, c5, c6⟩ := ev_blk hbx; clear hb hw4 hbx)))
          obtain ⟨ad', hae, x0, x1, x2, x3, x4, x5, x6⟩ := ev_at (Kd.C_below HC.out HW4.out) b hbl
          injection hae with hae
          subst hae
          obtain ⟨x, hx⟩ : ∃ x, l[b] = x := ⟨_, rfl⟩
          rw [hx] at x0 x1 x2 x3 x4 x5 x6 HDX
          clear hx
          refine wp_region_X (fun w' => w'.cell? (ad.add (b * 7)) = some (.int .i64 x.f0) ∧ w'.cell? ⟨(ad.add (b * 7)).block, (ad.add (b * 7)).off + 1, none⟩ = some (.int .i64 x.f1) ∧ w'.cell? ⟨(ad.add (b * 7)).block, (ad.add (b * 7)).off + 2, none⟩ = some (.int .i64 x.f2) ∧ w'.cell? ⟨(ad.add (b * 7)).block, (ad.add (b * 7)).off + 3, none⟩ = some (.int .i64 x.f3) ∧ w'.cell? ⟨(ad.add (b * 7)).block, (ad.add (b * 7)).off + 4, none⟩ = some (.int .i64 x.f4) ∧ w'.cell? ⟨(ad.add (b * 7)).block, (ad.add (b * 7)).off + 5, none⟩ = some (.int .i64 x.f5) ∧ w'.cell? ⟨(ad.add (b * 7)).block, (ad.add (b * 7)).off + 6, none⟩ = some (.int .i64 x.f6) ∧ w'.cell? ⟨wr.heap.size, 0, none⟩ = some (.int .i64 e.f0) ∧ w'.cell? ⟨wr.heap.size, 1, none⟩ = some (.int .i64 e.f1) ∧ w'.cell? ⟨wr.heap.size, 2, none⟩ = some (.int .i64 e.f2) ∧ w'.cell? ⟨wr.heap.size, 3, none⟩ = some (.int .i64 e.f3) ∧ w'.cell? ⟨wr.heap.size, 4, none⟩ = some (.int .i64 e.f4) ∧ w'.cell? ⟨wr.heap.size, 5, none⟩ = some (.int .i64 e.f5) ∧ w'.cell? ⟨wr.heap.size, 6, none⟩ = some (.int .i64 e.f6)) [] (by kernel_rfl) ?_
          have hS0 := And.intro x0 (And.intro x1 (And.intro x2 (And.intro x3 (And.intro x4 (And.intro x5 (And.intro x6 (And.intro c0 (And.intro c1 (And.intro c2 (And.intro c3 (And.intro c4 (And.intro c5 (c6)))))))))))))
          refine wpAnyX_take3 (i := 0) (v := ?_) rfl (by kernel_rfl) (by kernel_rfl) (by kernel_rfl) (by kernel_rfl) (fun _ _ _ h => h) (Or.inl ⟨by rfl, ?_⟩) (by assumption) ?_
          rotate_left 1
          · intro w hSw; (try dsimp only at hSw); go_split_ands; (first | (go_simp; done) | (go_simp; with_reducible rfl))
          try simp only [Act.put, List.getElem_toArray, List.getElem_cons_zero, List.getElem_cons_succ, List.setIfInBounds_toArray, List.set_cons_zero, List.set_cons_succ]
          refine wpAnyX_take3 (i := 1) (v := ?_) rfl (by kernel_rfl) (by kernel_rfl) (by kernel_rfl) (by kernel_rfl) (fun _ _ _ h => h) (Or.inl ⟨by rfl, ?_⟩) (by assumption) ?_
          rotate_left 1
          · intro w hSw; (try dsimp only at hSw); go_split_ands; (first | (go_simp; done) | (go_simp; with_reducible rfl))
          try simp only [Act.put, List.getElem_toArray, List.getElem_cons_zero, List.getElem_cons_succ, List.setIfInBounds_toArray, List.set_cons_zero, List.set_cons_succ]
          refine wpAnyX_take3 (i := 2) (v := ?_) rfl (by kernel_rfl) (by kernel_rfl) (by kernel_rfl) (by kernel_rfl) (fun _ _ _ h => h) (Or.inl ⟨by rfl, ?_⟩) (by assumption) ?_
          rotate_left 1
          · intro w hSw; (try dsimp only at hSw); go_split_ands; (first | (go_simp; done) | (go_simp; with_reducible rfl))
          try simp only [Act.put, List.getElem_toArray, List.getElem_cons_zero, List.getElem_cons_succ, List.setIfInBounds_toArray, List.set_cons_zero, List.set_cons_succ]
          refine wpAnyX_take3 (i := 3) (v := ?_) rfl (by kernel_rfl) (by kernel_rfl) (by kernel_rfl) (by kernel_rfl) (fun _ _ _ h => h) (Or.inl ⟨by rfl, ?_⟩) (by assumption) ?_
          rotate_left 1
          · intro w hSw; (try dsimp only at hSw); go_split_ands; (first | (go_simp; done) | (go_simp; with_reducible rfl))
          try simp only [Act.put, List.getElem_toArray, List.getElem_cons_zero, List.getElem_cons_succ, List.setIfInBounds_toArray, List.set_cons_zero, List.set_cons_succ]
          refine wpAnyX_take3 (i := 4) (v := ?_) rfl (by kernel_rfl) (by kernel_rfl) (by kernel_rfl) (by kernel_rfl) (fun _ _ _ h => h) (Or.inl ⟨by rfl, ?_⟩) (by assumption) ?_
          rotate_left 1
          · intro w hSw; (try dsimp only at hSw); go_split_ands; (first | (go_simp; done) | (go_simp; with_reducible rfl))
          try simp only [Act.put, List.getElem_toArray, List.getElem_cons_zero, List.getElem_cons_succ, List.setIfInBounds_toArray, List.set_cons_zero, List.set_cons_succ]
          refine wpAnyX_take3 (i := 5) (v := ?_) rfl (by kernel_rfl) (by kernel_rfl) (by kernel_rfl) (by kernel_rfl) (fun _ _ _ h => h) (Or.inl ⟨by rfl, ?_⟩) (by assumption) ?_
          rotate_left 1
          · intro w hSw; (try dsimp only at hSw); go_split_ands; (first | (go_simp; done) | (go_simp; with_reducible rfl))
          try simp only [Act.put, List.getElem_toArray, List.getElem_cons_zero, List.getElem_cons_succ, List.setIfInBounds_toArray, List.set_cons_zero, List.set_cons_succ]
          refine wpAnyX_take3 (i := 6) (v := ?_) rfl (by kernel_rfl) (by kernel_rfl) (by kernel_rfl) (by kernel_rfl) (fun _ _ _ h => h) (Or.inl ⟨by rfl, ?_⟩) (by assumption) ?_
          rotate_left 1
          · intro w hSw; (try dsimp only at hSw); go_split_ands; (first | (go_simp; done) | (go_simp; with_reducible rfl))
          try simp only [Act.put, List.getElem_toArray, List.getElem_cons_zero, List.getElem_cons_succ, List.setIfInBounds_toArray, List.set_cons_zero, List.set_cons_succ]
          refine wpAnyX_take3 (i := 7) (v := ?_) rfl (by kernel_rfl) (by kernel_rfl) (by kernel_rfl) (by kernel_rfl) (fun _ _ _ h => h) (Or.inl ⟨by rfl, ?_⟩) (by assumption) ?_
          rotate_left 1
          · intro w hSw; (try dsimp only at hSw); go_split_ands; (first | (go_simp; done) | (go_simp; with_reducible rfl))
          try simp only [Act.put, List.getElem_toArray, List.getElem_cons_zero, List.getElem_cons_succ, List.setIfInBounds_toArray, List.set_cons_zero, List.set_cons_succ]
          clear hS0
          have HX0 := Veil.mk (Below.refl w4.heap.size w4).drew
          refine wpAnyX_one (i := 8) (by kernel_rfl) rfl (fun K hK => ?_)
          go_simp
          refine (own_at _ x e).mono ?_
          rintro e8 w7 ⟨rfl, hb7⟩
          have HX7 := Veil.mk (HX0.out.trans hb7)
          have eC : ∀ o v, w4.cell? o = some v → w7.cell? o = some v := fun o v hv => (HX7.out.cell (p := o) (World.block_lt_of_cell? w4 _ hv)).trans hv
          have hS7 := And.intro (eC _ _ x0) (And.intro (eC _ _ x1) (And.intro (eC _ _ x2) (And.intro (eC _ _ x3) (And.intro (eC _ _ x4) (And.intro (eC _ _ x5) (And.intro (eC _ _ x6) (And.intro (eC _ _ c0) (And.intro (eC _ _ c1) (And.intro (eC _ _ c2) (And.intro (eC _ _ c3) (And.intro (eC _ _ c4) (And.intro (eC _ _ c5) ((eC _ _ c6))))))))))))))
          clear hb7 eC
          dsimp only
          refine hK.out _ _ (fun _ => hS7) ?_
          clear hK K
          try simp only [Act.put, List.getElem_toArray, List.getElem_cons_zero, List.getElem_cons_succ, List.setIfInBounds_toArray, List.set_cons_zero, List.set_cons_succ]
          refine wpAnyX_take3 (i := 9) (v := ?_) rfl (by kernel_rfl) (by kernel_rfl) (by kernel_rfl) (by kernel_rfl) (fun _ _ _ h => h) (Or.inl ⟨by rfl, ?_⟩) (by assumption) ?_
          rotate_left 1
          · intro w hSw; (try dsimp only at hSw); go_split_ands; (first | (go_simp; done) | (go_simp; with_reducible rfl))
          try simp only [Act.put, List.getElem_toArray, List.getElem_cons_zero, List.getElem_cons_succ, List.setIfInBounds_toArray, List.set_cons_zero, List.set_cons_succ]
          refine wpAnyX_take3 (i := 10) (v := ?_) rfl (by kernel_rfl) (by kernel_rfl) (by kernel_rfl) (by kernel_rfl) (fun _ _ _ h => h) (Or.inl ⟨by rfl, ?_⟩) (by assumption) ?_
          rotate_left 1
          · intro w hSw; (try dsimp only at hSw); go_split_ands; (first | (go_simp; done) | (go_simp; with_reducible rfl))
          try simp only [Act.put, List.getElem_toArray, List.getElem_cons_zero, List.getElem_cons_succ, List.setIfInBounds_toArray, List.set_cons_zero, List.set_cons_succ]
          clear hS7
          refine wpAnyX_done (by kernel_rfl) ?_ _
          try simp only [Act.put, List.getElem_toArray, List.getElem_cons_zero, List.getElem_cons_succ, List.setIfInBounds_toArray, List.set_cons_zero, List.set_cons_succ]
          have HW7 := Veil.mk (below_of HW4.out HX7.out)
          clear x0 x1 x2 x3 x4 x5 x6 c0 c1 c2 c3 c4 c5 c6
          cases ho : ownB x e with
          | true =>
            have HN := Veil.mk (HST.out (by rw [HDX.out, ho]))
            clear ho
            go_wp2
            exact ⟨⟨i + 1, by omega, by go_num, HN, HW7⟩, by simp [intOf]; omega⟩
          | false =>
            have HQ0 : Veil (rightM l = false) := ⟨HFA.out (by rw [HDX.out, ho])⟩
            clear ho
            go_wp2
            go_ret
            exact ⟨by rw [HQ0.out]; rfl, HW7.out⟩
      · have HQ0 : Veil (rightM l = false) := ⟨HFA.out (by rw [HDO.out, if_neg e1, if_neg e7, if_neg e26])⟩
        by_cases e2 : 2 ≤ e.f0
        · have m2 : decide (2 ≤ e.f0) = true := decide_eq_true e2
          have m6 : decide (e.f0 ≤ 6) = false := decide_eq_false (fun h => e26 ⟨e2, h⟩)
          clear e1 e7 e26 e2 HDO HOA HAT
          go_wp2_with (first | (go_at_call 54; go_must (refine (HLB.out _ HB1.out).mono ?_; rintro ed w3 ⟨rfl, hb⟩; have HB3 := Veil.mk hb; have HW3 := Veil.mk (HKC.out _ hb).1; clear hb)) | (go_at_call 55; go_must (refine (HOB.out _ HW3.out).mono ?_; rintro ed w4 ⟨rfl, hb⟩; have HB4 := Veil.mk (HB3.out.trans (hb.mono HB3.out.size)); obtain ⟨hw4, hbx⟩ := HKC.out _ HB4.out; have HW4 := Veil.mk hw4; have HX4 := Veil.mk hbx; obtain ⟨c0, c1, c2, c3, c4, c5, c6⟩ := ev_blk hbx; clear hb hw4 hbx)))
          go_ret
          exact ⟨by rw [HQ0.out]; rfl, HW4.out⟩
        · have m2 : decide (2 ≤ e.f0) = false := decide_eq_false e2
          clear e1 e7 e26 e2 HDO HOA HAT
          go_wp2_with (first | (go_at_call 54; go_must (refine (HLB.out _ HB1.out).mono ?_; rintro ed w3 ⟨rfl, hb⟩; have HB3 := Veil.mk hb; have HW3 := Veil.mk (HKC.out _ hb).1; clear hb)) | (go_at_call 55; go_must (refine (HOB.out _ HW3.out).mono ?_; rintro ed w4 ⟨rfl, hb⟩; have HB4 := Veil.mk (HB3.out.trans (hb.mono HB3.out.size)); obtain ⟨hw4, hbx⟩ := HKC.out _ HB4.out; have HW4 := Veil.mk hw4; have HX4 := Veil.mk hbx; obtain ⟨c0, c1, c2, c3, c4, c5, c6⟩ := ev_blk hbx; clear hb hw4 hbx)))
          go_ret
          exact ⟨by rw [HQ0.out]; rfl, HW4.out⟩
    · as_aux_lemma =>
      have d1 : decide ((i : Int) < (l.length : Int)) = false := decide_eq_false (by omega)
      have hkk : i = l.length := by omega
      subst hkk
      have HQ : Veil (rightM l = true) := ⟨by obtain ⟨ts, h⟩ := HR.out; exact h.done⟩
      have d1n : decide (l.length < l.length) = false := decide_eq_false (Nat.lt_irrefl _)
      go_wp2
      go_ret
      exact ⟨by rw [HQ.out]; rfl, HB.out⟩
end Go.Proofs.Ytjmnbbflahacoaa.Hist
