/- HistPlaces's walk: true for every trace. No condition. -/
import Derived.Test.YtjmnbbflahacoaaHistM
import Derived.Test.YtjmnbbflahacoaaPlaces
import Derived.Deep.DeepCutAuto
namespace Go.Proofs.Ytjmnbbflahacoaa.Hist
open Go.RowKit Go.ChangeMaps Go.Maps Go.Proofs.Ytjmnbbflahacoaa.Mem Go.Proofs.Ytjmnbbflahacoaa.PHistTells Go.Proofs.YtjmnbbflahacoaaW.PrintWords
set_option linter.unusedVariables false
set_option linter.unusedSimpArgs false

/-- The place behind which the k-th access must stand. -/
def lastPl (t : Tr) (k : Nat) : Int := match k with
  | 0 => t.f4
  | k + 1 => match t.f8[k]? with
    | some a => a.f0
    | none => 0
theorem lastPl_next {t : Tr} {k : Nat} {a : Acc} (ha : t.f8[k]? = some a) : lastPl t (k + 1) = a.f0 := by show (match t.f8[k]? with | some a => a.f0 | none => 0) = _; rw [ha]
theorem triesM_length (l : List Ev) : (triesM l).length ≤ l.length := by
  unfold triesM
  cases h : readM l with
  | none => simp
  | some ts => exact readM_length h
theorem lastPl_lt {l : List Ev} {n : Nat} {t : Tr} (h : TryGood l n t) {k : Nat} {a : Acc} (ha : t.f8[k]? = some a) : lastPl t k < a.f0 := by
  cases k with
  | zero => exact (h.acc a (List.mem_of_getElem? ha)).after
  | succ k =>
    obtain ⟨h1, h2⟩ := List.getElem?_eq_some_iff.1 ha
    have h3 : t.f8[k]? = some t.f8[k] := List.getElem?_eq_getElem (by omega)
    rw [lastPl_next h3, ← h2]
    exact List.pairwise_iff_getElem.1 h.rise k (k + 1) (by omega) h1 (by omega)
theorem totalAcc_take {ts : List Tr} {k : Nat} {t : Tr} (h : ts[k]? = some t) : totalAcc (ts.take (k + 1)) = totalAcc (ts.take k) + t.f8.length := by
  obtain ⟨h1, h2⟩ := List.getElem?_eq_some_iff.1 h
  rw [List.take_succ_eq_append_getElem h1, totalAcc_append, h2]
  rfl

/-- An event's kind and what else a law reads of it. -/
theorem ev_kind {w : World} {A : Option Addr} {l : List Ev} (hC : kEv.C w A l.length l) {i : Int} {x : Ev} (h0 : 0 ≤ i) (h1 : i < (l.length : Int)) (hx : l[i.toNat]? = some x) :
    ∃ ad, A = some ad ∧ w.cell? (ad.add (i.toNat * 7)) = some (.int .i64 x.f0) := by
  obtain ⟨ad, rfl, q0, _⟩ := at_T31 hC i h0 h1
  have : rd_T31 l i = x := by unfold rd_T31; rw [List.getD_eq_getElem?_getD, hx]; rfl
  rw [this] at q0
  exact ⟨ad, rfl, q0⟩

theorem ev_all {w : World} {A : Option Addr} {l : List Ev} (hC : kEv.C w A l.length l) {i : Int} {x : Ev} (h0 : 0 ≤ i) (h1 : i < (l.length : Int)) (hx : l[i.toNat]? = some x) :
    ∃ ad, A = some ad ∧ w.cell? (ad.add (i.toNat * 7)) = some (.int .i64 x.f0) ∧ w.cell? ⟨(ad.add (i.toNat * 7)).block, (ad.add (i.toNat * 7)).off + 1, none⟩ = some (.int .i64 x.f1) ∧ w.cell? ⟨(ad.add (i.toNat * 7)).block, (ad.add (i.toNat * 7)).off + 2, none⟩ = some (.int .i64 x.f2) ∧
      w.cell? ⟨(ad.add (i.toNat * 7)).block, (ad.add (i.toNat * 7)).off + 3, none⟩ = some (.int .i64 x.f3) ∧ w.cell? ⟨(ad.add (i.toNat * 7)).block, (ad.add (i.toNat * 7)).off + 4, none⟩ = some (.int .i64 x.f4) ∧ w.cell? ⟨(ad.add (i.toNat * 7)).block, (ad.add (i.toNat * 7)).off + 5, none⟩ = some (.int .i64 x.f5) ∧
      w.cell? ⟨(ad.add (i.toNat * 7)).block, (ad.add (i.toNat * 7)).off + 6, none⟩ = some (.int .i64 x.f6) := by
  obtain ⟨ad, rfl, q⟩ := at_T31 hC i h0 h1
  have : rd_T31 l i = x := by unfold rd_T31; rw [List.getD_eq_getElem?_getD, hx]; rfl
  rw [this] at q
  exact ⟨ad, rfl, q⟩

theorem below_cell {w w' : World} {a : Addr} {v : Value} (hb : Below w.heap.size w w') (h : w.cell? a = some v) : w'.cell? a = some v := (hb.cell (World.block_lt_of_cell? w a h)).trans h

theorem totalAcc_at {ts : List Tr} {k : Nat} {t : Tr} (h : ts[k]? = some t) : totalAcc (ts.take k) + t.f8.length ≤ totalAcc ts := by
  have h1 := totalAcc_take h
  have h2 := totalAcc_append (ts.take (k + 1)) (ts.drop (k + 1))
  rw [List.take_append_drop] at h2
  omega

set_option maxHeartbeats 4000000 in
set_option maxRecDepth 100000 in
theorem histPlaces_any (w : World) (A : Option Addr) (c : Nat) (l : List Ev) (hC : kEv.C w A l.length l) (hc : l.length ≤ c) (hok : ∀ e ∈ l, EvOk e) :
    Calls Try.prog 3 #[.slice A l.length c] w fun e w' => e = .returned (.bool true) ∧ Below w.heap.size w w' := by
  have HC := Veil.mk hC
  have HO := Veil.mk hok
  clear hC hc hok
  by_cases h120 : 120 < l.length
  · have h5 : decide ((120 : Int) < (l.length : Int)) = true := decide_eq_true (by omega)
    clear h120
    go_enter Try.func3, Try.ntmps3
    go_wp2_with (first | (go_at_call 19; refine (alive_any _).mono ?_; rintro ed w1 ⟨rfl, hb⟩; have HB := Veil.mk hb; clear hb))
    go_ret
    exact ⟨rfl, HB.out⟩
  · have h5 : decide ((120 : Int) < (l.length : Int)) = false := decide_eq_false (by omega)
    have HL : Veil (l.length ≤ 1000000000) := ⟨by omega⟩
    have HL2 : Veil (l.length ≤ 120) := ⟨by omega⟩
    clear h120
    cases hr : rightM l with
    | false =>
      have HR := Veil.mk hr
      clear hr
      go_enter Try.func3, Try.ntmps3
      go_wp2_with (first | (go_at_call 19; refine (alive_any _).mono ?_; rintro ed w1 ⟨rfl, hb⟩; have HB := Veil.mk hb; clear hb) | (go_at_call 20; refine (right_any _ A c l (Kd.C_below HC.out HB.out) HL.out HO.out).mono ?_; rintro ed w2 ⟨rfl, hb⟩; rw [HR.out]; have HB2 := Veil.mk (below_of HB.out hb); clear hb))
      go_ret
      exact ⟨rfl, HB2.out⟩
    | true =>
      have HR := Veil.mk hr
      have HG := Veil.mk (triesM_good l)
      have HN := Veil.mk ((triesM_good l).2 hr)
      clear hr
      go_enter Try.func3, Try.ntmps3
      go_wp2_with (first | (go_at_call 19; refine (alive_any _).mono ?_; rintro ed w1 ⟨rfl, hb⟩; have HB := Veil.mk hb; clear hb) | (go_at_call 20; refine (right_any _ A c l (Kd.C_below HC.out HB.out) HL.out HO.out).mono ?_; rintro ed w2 ⟨rfl, hb⟩; rw [HR.out]; have HB2 := Veil.mk (below_of HB.out hb); clear hb) | (go_at_call 21; refine (tries_any _ A c l (Kd.C_below HC.out HB2.out) HL.out HO.out).mono ?_; rintro ed w3 ⟨v, rfl, hv, hb⟩; have HB3 := Veil.mk (below_of HB2.out hb); have hvr := Kd.R_reads hv; obtain ⟨A1, c1, rfl, _, hT⟩ := hvr; have HT := Veil.mk hT; clear hv hb hT))
      go_loopw [4, 5, 6, 7, 8, 9] (fun v4 v5 v6 v7 v8 v9 wr => ∃ i : Nat, i ≤ (triesM l).length ∧ v4 = .int .i64 (totalAcc ((triesM l).take i) : Nat) ∧ v5 = .int .i64 i ∧ Veil (Below w.heap.size w wr) ∧ Veil (Below w3.heap.size w3 wr)) (fun _ v5 _ _ _ _ _ => (triesM l).length - (intOf v5).toNat)
      case atStart => exact ⟨0, Nat.zero_le _, rfl, rfl, HB3, ⟨Below.refl _ _⟩⟩
      case round =>
        obtain ⟨i, hi, rfl, rfl, HW, HW3⟩ := hrel
        have hlen := HL2.out
        have htl : (triesM l).length ≤ 120 := Nat.le_trans (triesM_length l) hlen
        by_cases hlt : i < (triesM l).length
        · have hT' := Kd.C_below HT.out HW3.out
          obtain ⟨ad, A8, c8, rfl, q0, q1, q2, q3, q4, q5, q6, q7, q8, _, hA8⟩ := at_T29 hT' (i : Int) (by omega) (by omega)
          simp only [Int.toNat_natCast] at q0 q4 q5 q7 q8
          have hlti : decide ((i : Int) < ((triesM l).length : Int)) = true := decide_eq_true (by omega)
          have hlti2 : (i : Int) < ((triesM l).length : Int) := by omega
          have hx : rd_T29 (triesM l) (i : Int) = (triesM l)[i] := by unfold rd_T29; simp [List.getD, hlt]
          obtain ⟨t, htt⟩ : ∃ t, rd_T29 (triesM l) (i : Int) = t := ⟨_, rfl⟩
          rw [htt] at q0 q4 q5 q7 q8 hA8
          have HTT : Veil ((triesM l)[i]? = some t) := ⟨by rw [List.getElem?_eq_getElem hlt, ← hx, htt]⟩
          have HGT := Veil.mk (HG.out.1 t (List.mem_of_getElem? HTT.out))
          clear hx htt q1 q2 q3 q6 hT'
          have HA8 := Veil.mk hA8
          clear hA8
          obtain ⟨x, hx, hx1⟩ := HGT.out.bk
          have hb0 := HGT.out.b0
          have hb1 := HGT.out.b1
          have he1 := HGT.out.e1
          have hCl := Kd.C_below HC.out HW.out
          obtain ⟨al, hal, x0⟩ := ev_kind hCl hb0 hb1 hx
          subst hal
          have d1 : decide (t.f4 < 0) = false := decide_eq_false (by omega)
          have d2 : decide ((l.length : Int) ≤ t.f4) = false := decide_eq_false (by omega)
          have d3 : (x.f0 != 1) = false := by rw [hx1]; rfl
          have d4 : decide ((l.length : Int) ≤ t.f5) = false := decide_eq_false (by omega)
          have d0 : decide (0 ≤ t.f4) = true := decide_eq_true hb0
          have d0' : decide (t.f4 < (l.length : Int)) = true := decide_eq_true hb1
          clear hx hx1 hCl
          go_wp2_with fail
          go_cut [86] (fun s86 wx => s86 = .bool false ∧ ∃ n, wx = wr.drewN n)
          case first =>
            by_cases hend : 0 ≤ t.f5
            · obtain ⟨y, hy, hy7⟩ := HGT.out.ek hend
              have hCl := Kd.C_below HC.out HW.out
              obtain ⟨al', hal', y0⟩ := ev_kind hCl hend he1 hy
              injection hal' with hal'
              subst hal'
              have d5 : decide (0 ≤ t.f5) = true := decide_eq_true hend
              have d6 : decide (t.f5 < (l.length : Int)) = true := decide_eq_true he1
              obtain ⟨b, hb⟩ : ∃ b, (y.f0 == 5) = b := ⟨_, rfl⟩
              rw [hb] at hy7
              rw [hy7] at q7
              clear hy hy7 hCl
              go_quiet (fail)
              go_wp2_with fail
              go_meet
              case rel => exact ⟨by simp, _, rfl⟩
            · have d5 : decide (0 ≤ t.f5) = false := decide_eq_false hend
              go_quiet (fail)
              go_wp2_with fail
              go_meet
              case rel => exact ⟨by simp, _, rfl⟩
          case rest =>
            obtain ⟨rfl, nq, rfl⟩ := hcut
            have HW4 := Veil.mk (HW.out.drewN nq)
            have HW34 := Veil.mk (HW3.out.drewN nq)
            have HT4 := Veil.mk (Kd.C_below HA8.out (below_drewN nq))
            clear q0 q4 q5 q7 q8 x0 d1 d2 d3 HW HW3 HA8
            generalize wr.drewN nq = w4 at *
            go_wp2
            go_loopw [6, 7, 8, 9] (fun v6 v7 v8 v9 wi => ∃ k : Nat, k ≤ t.f8.length ∧ v6 = .int .i64 (lastPl t k) ∧ v7 = .int .i64 k ∧ Veil (Below w4.heap.size w4 wi)) (fun _ v7 _ _ _ => t.f8.length - (intOf v7).toNat)
            case atStart => exact ⟨0, Nat.zero_le _, rfl, rfl, ⟨Below.refl _ _⟩⟩
            case round =>
              obtain ⟨k, hk, rfl, rfl, HWi⟩ := hrel
              have HWw := Veil.mk (HW4.out.trans (HWi.out.mono HW4.out.size))
              have hTi := Kd.C_below HT.out (HW34.out.trans (HWi.out.mono HW34.out.size))
              obtain ⟨ad', A8', c8', had, q0, q1, q2, q3, q4, q5, q6, q7, q8, _, hA8⟩ := at_T29 hTi (i : Int) (by omega) (by omega)
              injection had with had
              subst had
              have hx : rd_T29 (triesM l) (i : Int) = t := by unfold rd_T29; rw [List.getD_eq_getElem?_getD, Int.toNat_natCast, HTT.out]; rfl
              rw [hx] at q0 q5 q8 hA8
              simp only [Int.toNat_natCast] at q0 q5 q8
              have hsum := totalAcc_at HTT.out
              rw [HN.out] at hsum
              have hcl : l.countP isRW ≤ l.length := List.countP_le_length
              clear hx q1 q2 q3 q4 q6 q7 hTi
              by_cases hkl : k < t.f8.length
              · obtain ⟨ak, rfl, a0, a1, a2, a3, a4, a5⟩ := at_T33 hA8 (k : Int) (by omega) (by omega)
                simp only [Int.toNat_natCast] at a0 a1 a2 a3 a4 a5
                have hxa : rd_T33 t.f8 (k : Int) = t.f8[k] := by unfold rd_T33; simp [List.getD, hkl]
                obtain ⟨a, haa⟩ : ∃ a, rd_T33 t.f8 (k : Int) = a := ⟨_, rfl⟩
                rw [haa] at a0 a1 a2 a3 a4 a5
                have HAK : Veil (t.f8[k]? = some a) := ⟨by rw [List.getElem?_eq_getElem hkl, ← hxa, haa]⟩
                have hag := HGT.out.acc a (List.mem_of_getElem? HAK.out)
                have hlp := lastPl_lt HGT.out HAK.out
                have HLN := Veil.mk (lastPl_next HAK.out)
                clear hxa haa hA8
                have hlti3 : decide ((k : Int) < (t.f8.length : Int)) = true := decide_eq_true (by omega)
                have hlti4 : (k : Int) < (t.f8.length : Int) := by omega
                have g1 : decide (a.f0 ≤ lastPl t k) = false := decide_eq_false (by omega)
                have hal := hag.lt
                have g2 : decide ((l.length : Int) ≤ a.f0) = false := decide_eq_false (by omega)
                have ha0 : 0 ≤ a.f0 := by have := hag.after; omega
                obtain ⟨x, hx, hx0, hx4, hx5, hx1⟩ := hag.ev
                have hCl := Kd.C_below HC.out HWw.out
                obtain ⟨al', hal', x0, x1, x2, x3, x4, x5, x6⟩ := ev_all hCl ha0 hal hx
                injection hal' with hal'
                subst hal'
                rw [hx0] at x0
                rw [hx4] at x4
                rw [hx5] at x5
                rw [hx1] at x1
                clear hCl hx hx0 hx4 hx5 hx1 hlp
                have HAG := Veil.mk hag.ahead
                clear hag
                have q5' := fun o => alloc_cell q5 o
                have HBX := Veil.mk (Blk.new wr #[.int .i64 a.f0, .int .i64 a.f1, .int .i64 a.f2, .int .i64 a.f3, .bool a.f4, .bool a.f5] 33)
                have HBW : Veil (Below wr.heap.size wr (wr.alloc (.cells #[.int .i64 a.f0, .int .i64 a.f1, .int .i64 a.f2, .int .i64 a.f3, .bool a.f4, .bool a.f5] 33))) := ⟨(Below.refl _ _).alloc (Nat.le_refl _) _⟩
                go_wp2_with fail
                go_cut [133] (fun s133 wx => s133 = .bool false ∧ ∃ n, wx = (wr.alloc (.cells #[.int .i64 a.f0, .int .i64 a.f1, .int .i64 a.f2, .int .i64 a.f3, .bool a.f4, .bool a.f5] 33)).drewN n)
                case first =>
                  by_cases hend : 0 ≤ t.f5
                  · have d5 : decide (0 ≤ t.f5) = true := decide_eq_true hend
                    have d6 : decide (t.f5 ≤ a.f0) = false := decide_eq_false (by have := HAG.out hend; omega)
                    go_quiet (fail)
                    go_wp2_with fail
                    go_meet
                    case rel => exact ⟨by simp, _, rfl⟩
                  · have d5 : decide (0 ≤ t.f5) = false := decide_eq_false hend
                    go_quiet (fail)
                    go_wp2_with fail
                    go_meet
                    case rel => exact ⟨by simp, _, rfl⟩
                case rest =>
                  obtain ⟨rfl, nq2, rfl⟩ := hcut
                  have hbw := HBW.out.drewN nq2
                  have HB5 := Veil.mk (HBX.out.drewN nq2)
                  have HW5 := Veil.mk hbw
                  clear q5' HBX HBW q5 q8 a0 a1 a2 a3 a4 a5 g1
                  generalize (wr.alloc (.cells #[.int .i64 a.f0, .int .i64 a.f1, .int .i64 a.f2, .int .i64 a.f3, .bool a.f4, .bool a.f5] 33)).drewN nq2 = w5 at *
                  have b0 := HB5.out.cell 0 _ rfl
                  have b1 := HB5.out.cell 1 _ rfl
                  have b2 := HB5.out.cell 2 _ rfl
                  have b3 := HB5.out.cell 3 _ rfl
                  have p0 := below_cell hbw q0
                  have y0 := below_cell hbw x0
                  have y1 := below_cell hbw x1
                  have y2 := below_cell hbw x2
                  have y3 := below_cell hbw x3
                  have y4 := below_cell hbw x4
                  have y5 := below_cell hbw x5
                  have y6 := below_cell hbw x6
                  have d0 : decide (0 ≤ a.f0) = true := decide_eq_true ha0
                  have d1 : decide (a.f0 < (l.length : Int)) = true := decide_eq_true hal
                  clear q0 x0 x1 x2 x3 x4 x5 x6 hbw
                  have c0 := fun o => alloc_cell b0 o
                  have c1 := fun o => alloc_cell b1 o
                  have c2 := fun o => alloc_cell b2 o
                  have c3 := fun o => alloc_cell b3 o
                  have r0 := fun o => alloc_cell p0 o
                  go_wp2_with fail
                  go_quiet (fail)
                  go_wp2
                  exact ⟨⟨k + 1, by omega, by rw [HLN.out], by go_num, ⟨HWi.out.trans ((HW5.out.mono HWi.out.size).trans (((Below.refl _ _).alloc (Nat.le_trans HWi.out.size HW5.out.size) _).drewN _))⟩⟩, by simp [intOf]; omega⟩
              · have hke : k = t.f8.length := by omega
                have hlti3 : decide ((k : Int) < (t.f8.length : Int)) = false := decide_eq_false (by omega)
                have HNX := Veil.mk (totalAcc_take HTT.out)
                obtain ⟨q, hq⟩ : ∃ q, totalAcc ((triesM l).take i) = q := ⟨_, rfl⟩
                have HQ := Veil.mk hq
                rw [hq]
                have hqb := hsum
                rw [hq] at hqb
                clear hq hke
                go_wp2
                go_roundw
                case rel => exact ⟨i + 1, by omega, by rw [HNX.out, HQ.out]; go_num, by go_num, HWw, ⟨HW34.out.trans (HWi.out.mono HW34.out.size)⟩⟩
                case measure => simp [intOf]; omega
        · have hie : i = (triesM l).length := by omega
          have hlti : decide ((i : Int) < ((triesM l).length : Int)) = false := decide_eq_false (by omega)
          have HF : Veil (totalAcc ((triesM l).take i) = l.countP isRW) := ⟨by rw [hie, List.take_length, HN.out]⟩
          rw [HF.out]
          clear hie
          go_wp2
          have hcl : l.countP isRW ≤ l.length := List.countP_le_length
          obtain ⟨Q, hQ⟩ : ∃ Q, l.countP isRW = Q := ⟨_, rfl⟩
          have HQQ := Veil.mk hQ
          rw [hQ] at hcl ⊢
          clear hQ HF
          go_loopw [10, 11] (fun v10 v11 wr => ∃ k : Nat, k ≤ l.length ∧ v10 = .int .i64 ((l.take k).countP isRW : Nat) ∧ v11 = .int .i64 k ∧ Veil (Below w.heap.size w wr)) (fun _ v11 _ => l.length - (intOf v11).toNat)
          case atStart => exact ⟨0, Nat.zero_le _, rfl, rfl, HW⟩
          case round =>
            obtain ⟨k, hk, rfl, rfl, HWr⟩ := hrel
            obtain ⟨q, hq⟩ : ∃ q, (l.take k).countP isRW = q := ⟨_, rfl⟩
            have hqb : q ≤ 120 := by rw [← hq]; exact Nat.le_trans List.countP_le_length (by rw [List.length_take]; omega)
            rw [hq]
            have HQ := Veil.mk hq
            by_cases hkt : k < l.length
            · have HNX : Veil ((l.take (k + 1)).countP isRW = q + (if isRW l[k] then 1 else 0)) := ⟨by rw [List.take_succ_eq_append_getElem hkt, List.countP_append, List.countP_singleton, hq]⟩
              clear hq
              have hlk : decide ((k : Int) < (l.length : Int)) = true := decide_eq_true (by omega)
              have hlk2 : (k : Int) < (l.length : Int) := by omega
              obtain ⟨al, rfl, x0⟩ := ev_kind (Kd.C_below HC.out HWr.out) (i := (k : Int)) (by omega) hlk2 (List.getElem?_eq_getElem (by simpa using hkt))
              simp only [Int.toNat_natCast] at x0
              obtain ⟨x, hx⟩ : ∃ x, l[k] = x := ⟨_, rfl⟩
              rw [hx] at x0
              have HX := Veil.mk hx
              clear hx
              cases e2 : (x.f0 == 2) with
              | true =>
                go_wp2
                go_roundw
                case rel => exact ⟨k + 1, by omega, by rw [HNX.out, HX.out]; unfold isRW; rw [e2]; go_num, by go_num, HWr⟩
                case measure => simp [intOf]; omega
              | false =>
                cases e3 : (x.f0 == 3) with
                | true =>
                  go_wp2
                  go_roundw
                  case rel => exact ⟨k + 1, by omega, by rw [HNX.out, HX.out]; unfold isRW; rw [e2, e3]; go_num, by go_num, HWr⟩
                  case measure => simp [intOf]; omega
                | false =>
                  go_wp2
                  go_roundw
                  case rel => exact ⟨k + 1, by omega, by rw [HNX.out, HX.out]; unfold isRW; rw [e2, e3]; rfl, by go_num, HWr⟩
                  case measure => simp [intOf]; omega
            · have hkl : k = l.length := by omega
              have hlk : decide ((k : Int) < (l.length : Int)) = false := decide_eq_false (by omega)
              have HE : Veil (Q = q) := ⟨by rw [← HQQ.out, ← hq, hkl, List.take_length]⟩
              rw [HE.out]
              clear hkl hq
              go_wp2
              go_ret
              exact ⟨by simp, HWr.out⟩
end Go.Proofs.Ytjmnbbflahacoaa.Hist
