/- The document's tries: the walk. No condition. -/
import Derived.Test.YtjmnbbflahacoaaRefX
import Derived.Test.YtjmnbbflahacoaaPHistTellsx1
import Derived.BigRegion
import Derived.Deep.RegionWith
import Derived.Deep.DeepCutAuto
import Derived.Deep.CutBlock
namespace Go.Proofs.Ytjmnbbflahacoaa.Hist
open Go.RowKit Go.Proofs.Ytjmnbbflahacoaa.Mem Go.Proofs.Ytjmnbbflahacoaa.PHistTells Go.Proofs.YtjmnbbflahacoaaW.PrintWords
set_option linter.unusedVariables false
set_option linter.unusedSimpArgs false

set_option maxHeartbeats 40000000 in
set_option maxRecDepth 100000 in
theorem reftries_any (w : World) (A : Option Addr) (c : Nat) (l : List Ev) (hC : kEv.C w A l.length l) (hl : l.length ≤ 1000) :
    Calls Try.prog 26 #[.slice A l.length c] w fun e w' => ∃ v, e = .returned v ∧ kRt.R 43 w' w.heap.size (fun _ => True) v (rtries l) ∧ Below w.heap.size w w' := by
  have HC := Veil.mk hC
  have HL := Veil.mk hl
  clear hC
  go_enter Try.func26, Try.ntmps26
  go_wp2
  go_loopw [3, 4] (fun v3 v4 wr => ∃ i : Nat, i ≤ l.length ∧ v4 = .int .i64 i ∧ Veil (kRt.R 43 wr w.heap.size (fun _ => True) v3 (rtriesUpTo l i)) ∧ Veil (Below w.heap.size w wr)) (fun _ v4 _ => l.length - (intOf v4).toNat)
  case atStart => exact ⟨0, Nat.zero_le _, rfl, ⟨Kd.R_nil _ _ _ _ _⟩, ⟨Below.refl _ _⟩⟩
  case round =>
    obtain ⟨i, hi, rfl, HO, HW⟩ := hrel
    by_cases hlt : i < l.length
    · obtain ⟨ad, rfl, h0, h1, h2, h3, h4, h5, h6⟩ := ev_at (Kd.C_below HC.out HW.out) i hlt
      have hlti : decide ((i : Int) < (l.length : Int)) = true := decide_eq_true (by omega)
      have HB := Veil.mk (beginAt_of (List.getElem?_eq_getElem hlt))
      have HG : Veil (l.getD i z31 = l[i]) := ⟨by simp [List.getD, hlt]⟩
      obtain ⟨x, hx⟩ : ∃ x, l[i] = x := ⟨_, rfl⟩
      rw [hx] at h0 h1 h2 h3 h4 h5 h6 HB HG
      have HX := Veil.mk hx
      clear hx
      by_cases hp : x.f0 = 1
      · have e1 : (x.f0 != 1) = false := by simp [hp]
        have HP : Veil (beginAt l i = true) := ⟨by rw [HB.out, hp]; rfl⟩
        clear hp
        go_wp2_with fail
        have a1 := alloc_cell h1
        have a2 := alloc_cell h2
        have a3 := alloc_cell h3
        have a5 := alloc_cell h5
        go_region
        obtain ⟨HS0, HB0⟩ := scan_new (i := (i : Int)) (x := x) HW.out HO.out
        clear h0 h1 h2 h3 h4 h5 h6 a1 a2 a3 a5 e1
        generalize (wr.alloc (.cells #[.int .i64 x.f1, .int .i64 x.f2, .int .i64 x.f3, .int .i64 x.f5, .int .i64 i, .int .i64 (-1), .int .i64 0, .bool false, .slice none 0 0] 43)).drew = w2 at HS0 HB0 ⊢
        generalize wr.heap.size = bt at HS0 ⊢
        have HS := Veil.mk HS0
        have HB2 := Veil.mk HB0
        clear HS0 HB0 HO HW
        go_upto_block 2 with fail
        go_cut [6] (fun s6 wx => ∃ row : Value, Veil (Scan wx w.heap.size bt (rscan l x i l.length) row u3 (rtriesUpTo l i)) ∧ Veil (Below w.heap.size w wx))
        case first =>
          as_aux_lemma =>
          go_wp2_with fail
          go_loopw [6] (fun v6 wq => ∃ (k : Nat) (cur : Tr) (row : Value), i + 1 ≤ k ∧ k ≤ l.length ∧ v6 = .int .i64 k ∧ Veil (rscan l x i k = cur) ∧ Veil (Scan wq w.heap.size bt cur row u3 (rtriesUpTo l i)) ∧ Veil (Below w.heap.size w wq)) (fun v6 _ => l.length - (intOf v6).toNat)
          case atStart => exact ⟨i + 1, _, _, Nat.le_refl _, by omega, by go_num, ⟨rscan_first _ _ _ _ (Nat.le_refl _)⟩, HS, HB2⟩
          case round =>
            as_aux_lemma =>
            obtain ⟨k, cur, row, hk0, hk1, rfl, HK, HT, HQ⟩ := hrel
            obtain ⟨q0, q1, q2, q3, q4, q5, q6, q7, q8⟩ := HT.out.tr.cells
            by_cases hkl : k < l.length
            · have d1 : decide ((k : Int) < (l.length : Int)) = true := decide_eq_true (by omega)
              by_cases ho : cur.f5 < 0
              · have d2 : decide (cur.f5 < 0) = true := decide_eq_true ho
                have HOP := Veil.mk ho
                clear ho
                obtain ⟨ae, hae, r0, r1, r2, r3, r4, r5, r6⟩ := ev_at (Kd.C_below HC.out HQ.out) k hkl
                obtain ⟨e, he⟩ : ∃ e, l[k] = e := ⟨_, rfl⟩
                rw [he] at r0 r1 r2 r3 r4 r5 r6
                have HE := Veil.mk he
                injection hae with hae
                subst hae
                clear he
                go_wp2_with fail
                obtain ⟨HS0, HE0, HB0⟩ := scan_ev (e := e) HQ.out HT.out
                clear q0 q1 q2 q3 q4 q5 q6 q7 q8 r0 r1 r2 r3 r4 r5 r6 HT HQ
                generalize wr.alloc (.cells #[.int .i64 e.f0, .int .i64 e.f1, .int .i64 e.f2, .int .i64 e.f3, .int .i64 e.f4, .int .i64 e.f5, .int .i64 e.f6] 31) = w3 at HS0 HE0 HB0 ⊢
                generalize wr.heap.size = be at HE0 ⊢
                have HT := Veil.mk HS0
                have HQ := Veil.mk HB0
                have HEB := Veil.mk HE0
                clear HS0 HB0 HE0
                obtain ⟨ae, hae, r0, r1, r2, r3, r4, r5, r6⟩ := ev_at (Kd.C_below HC.out HQ.out) i hlt
                rw [HX.out] at r0 r1 r2 r3 r4 r5 r6
                injection hae with hae
                subst hae
                obtain ⟨q0, q1, q2, q3, q4, q5, q6⟩ := ev_blk HEB.out
                obtain ⟨Ar, cr, rfl, hcr, hCr⟩ := Kd.R_reads HT.out.tr.acc
                have HLA : Veil (cur.f8.length ≤ 1000) := ⟨by have := rscan_acc l x i k; rw [HK.out] at this; omega⟩
                clear hcr hCr
                go_cut [68] (fun s68 wx => s68 = .bool (!ownB x e) ∧ Veil (Below w3.heap.size w3 wx))
                case first =>
                  as_aux_lemma =>
                  cases how : ownB x e with
                  | false =>
                    have HOW := Veil.mk how
                    clear how
                    go_region_with (go_at_call 56; refine (own_any _ x e).mono ?_; rintro ed w4 ⟨rfl, hb⟩; rw [HOW.out])
                    all_goals
                      go_wp2_with fail
                      go_meet
                      case rel => exact ⟨by rw [HOW.out]; rfl, ⟨((Below.refl _ _).drew).trans ‹_›⟩⟩
                  | true =>
                    have HOW := Veil.mk how
                    clear how
                    go_region_with (go_at_call 56; refine (own_any _ x e).mono ?_; rintro ed w4 ⟨rfl, hb⟩; rw [HOW.out])
                    all_goals
                      go_wp2_with fail
                      go_meet
                      case rel => exact ⟨by rw [HOW.out]; rfl, ⟨((Below.refl _ _).drew).trans ‹_›⟩⟩
                case rest =>
                  as_aux_lemma =>
                  obtain ⟨rfl, HBX⟩ := hcut
                  clear q0 q1 q2 q3 q4 q5 q6 r0 r1 r2 r3 r4 r5 r6
                  have HT4 := Veil.mk (HT.out.below HBX.out)
                  have HQ4 := Veil.mk (HQ.out.trans (HBX.out.mono HQ.out.size))
                  have HE4 := Veil.mk (HEB.out.below HBX.out HEB.out.lt)
                  have HN := Veil.mk (rscan_next (x := x) hkl (show i < k by omega))
                  clear HT HQ HEB HBX
                  obtain ⟨q0, q1, q2, q3, q4, q5, q6⟩ := ev_blk HE4.out
                  obtain ⟨p0, p1, p2, p3, p4, p5, p6, p7, p8⟩ := HT4.out.tr.cells
                  have hk1' : k ≤ 1000 := by omega
                  cases how : ownB x e with
                  | false =>
                    have HR : Veil (rscan l x i (k + 1) = cur) := ⟨by rw [HN.out, HK.out, HE.out]; unfold rstep; rw [if_neg (by rw [how]; simp)]⟩
                    clear how
                    go_wp2
                    go_roundw
                    case rel => exact ⟨k + 1, cur, _, by omega, by omega, by go_num, HR, HT4, HQ4⟩
                    case measure => simp [intOf]; omega
                  | true =>
                    have HR : Veil (rscan l x i (k + 1) = rturn cur k e) := ⟨by rw [HN.out, HK.out, HE.out]; unfold rstep; rw [if_pos ⟨HOP.out, how⟩]⟩
                    clear how
                    by_cases k23 : e.f0 = 2 ∨ e.f0 = 3
                    · have HRR : Veil (rturn cur k e = withAcc cur (cur.f8 ++ [accOf cur k e])) := ⟨by unfold rturn; rw [if_pos k23]⟩
                      have hla := HLA.out
                      rcases k23 with h2 | h3
                      · have n2 : (e.f0 == 2) = true := by simp [h2]
                        clear h2
                        go_wp2_with fail
                        obtain ⟨HS5, HA5, HE5, HQ5, hbs, hrw⟩ := acc_new (k := (k : Int)) HQ4.out HT4.out HE4.out
                        have hbt := HT4.out.tr.blk.lt
                        clear q0 q1 q2 q3 q4 q5 q6 p0 p1 p2 p3 p4 p5 p6 p7 p8 HT4 HQ4 HE4
                        generalize wc.alloc (.cells #[.int .i64 k, .int .i64 e.f0, .int .i64 e.f4, .int .i64 e.f5, .bool false, .bool false] 94) = w5 at HS5 HA5 HE5 HQ5 ⊢
                        generalize wc.heap.size = ba at HA5 hbs hrw hbt ⊢
                        have HK5 : Veil (Asks w5 w.heap.size bt be ba k e false cur (.slice Ar cur.f8.length cr) u3 (rtriesUpTo l i)) := ⟨⟨HS5, HE5, HA5, hbs, hrw, hbt⟩⟩
                        have HQ5 := Veil.mk HQ5
                        clear HS5 HA5 HE5 hbs hrw hbt
                        as_aux_lemma =>
                        go_loopw [9] (fun v9 wq => ∃ n : Nat, n ≤ cur.f8.length ∧ v9 = .int .i64 n ∧ Veil (Asks wq w.heap.size bt be ba k e (ownTo e cur.f8 n) cur (.slice Ar cur.f8.length cr) u3 (rtriesUpTo l i)) ∧ Veil (Below w.heap.size w wq)) (fun v9 _ => cur.f8.length - (intOf v9).toNat)
                        case atStart => exact ⟨0, Nat.zero_le _, rfl, ⟨by simpa [ownTo] using HK5.out⟩, HQ5⟩
                        case round =>
                          as_aux_lemma =>
                          obtain ⟨n, hn, rfl, HM, HQn⟩ := hrel
                          have p8 : wr.cell? ⟨bt, 8, none⟩ = some (.slice Ar cur.f8.length cr) := HM.out.sc.tr.blk.cell 8 _ rfl
                          have q0 : wr.cell? ⟨be, 0, none⟩ = some (.int .i64 e.f0) := HM.out.ev.cell 0 _ rfl
                          have q4 : wr.cell? ⟨be, 4, none⟩ = some (.int .i64 e.f4) := HM.out.ev.cell 4 _ rfl
                          by_cases hnl : n < cur.f8.length
                          · have e1 : decide ((n : Int) < (cur.f8.length : Int)) = true := decide_eq_true (by omega)
                            have e2 : (n : Int) < (cur.f8.length : Int) := by omega
                            obtain ⟨g, rfl⟩ := HM.out.sc.tr.form (by omega)
                            obtain ⟨z1, z2, z5, y5⟩ := HM.out.sc.tr.at n cur.f8[n] (List.getElem?_eq_getElem hnl)
                            have HNX := Veil.mk (ownTo_next e cur.f8 hnl)
                            obtain ⟨a, ha⟩ : ∃ a, cur.f8[n] = a := ⟨_, rfl⟩
                            rw [ha] at z1 z2 z5 HNX
                            clear ha z5 y5
                            have a4 : wr.cell? ⟨ba, 4, none⟩ = some (.bool (ownTo e cur.f8 n)) := HM.out.acc.cell 4 _ rfl
                            have f4 : wr.frozen? ⟨ba, 4, none⟩ = false := HM.out.acc.free 4
                            cases hot : ownTo e cur.f8 n with
                            | true =>
                              rw [hot] at a4
                              have HOT := Veil.mk hot
                              clear hot
                              go_wp2_with fail
                              go_region
                              go_wp2
                              exact ⟨⟨n + 1, by omega, by go_num, ⟨(HM.out.set _ (by rw [HNX.out, HOT.out]; rfl)).drew⟩, ⟨((HQn.out.setCell HM.out.low _).drew)⟩⟩, by simp [intOf]; omega⟩
                            | false =>
                              rw [hot] at a4
                              have HOT := Veil.mk hot
                              clear hot
                              have N2 := Veil.mk n2
                              by_cases hp : a.f1 = 3
                              · have m1 : (a.f1 == 3) = true := beq_iff_eq.2 hp
                                clear hp
                                have M1 := Veil.mk m1
                                by_cases hq : a.f2 = e.f4
                                · have m2 : (a.f2 == e.f4) = true := beq_iff_eq.2 hq
                                  clear hq
                                  have M2 := Veil.mk m2
                                  go_wp2_with fail
                                  go_region
                                  go_wp2
                                  exact ⟨⟨n + 1, by omega, by go_num, ⟨(HM.out.set _ (by rw [HNX.out, HOT.out, N2.out]; unfold wrote; rw [M1.out, M2.out]; rfl)).drew⟩, ⟨((HQn.out.setCell HM.out.low _).drew)⟩⟩, by simp [intOf]; omega⟩
                                · have m2 : (a.f2 == e.f4) = false := beq_eq_false_iff_ne.2 hq
                                  clear hq
                                  have M2 := Veil.mk m2
                                  go_wp2_with fail
                                  go_region
                                  go_wp2
                                  exact ⟨⟨n + 1, by omega, by go_num, ⟨(HM.out.set _ (by rw [HNX.out, HOT.out, N2.out]; unfold wrote; rw [M1.out, M2.out]; rfl)).drew⟩, ⟨((HQn.out.setCell HM.out.low _).drew)⟩⟩, by simp [intOf]; omega⟩
                              · have m1 : (a.f1 == 3) = false := beq_eq_false_iff_ne.2 hp
                                clear hp
                                have M1 := Veil.mk m1
                                go_wp2_with fail
                                go_region
                                go_wp2
                                exact ⟨⟨n + 1, by omega, by go_num, ⟨(HM.out.set _ (by rw [HNX.out, HOT.out, N2.out]; unfold wrote; rw [M1.out]; rfl)).drew⟩, ⟨((HQn.out.setCell HM.out.low _).drew)⟩⟩, by simp [intOf]; omega⟩
                          · have e1 : decide ((n : Int) < (cur.f8.length : Int)) = false := decide_eq_false (by omega)
                            have hne : n = cur.f8.length := by omega
                            subst hne
                            obtain ⟨a0, a1, a2, a3, a4, a5⟩ := acc_cells' HM.out.acc
                            have HTA := Veil.mk (ownTo_all cur (k : Int) e)
                            generalize ownTo e cur.f8 cur.f8.length = o at HM a4 HTA
                            go_wp2_with (first | ((with_reducible refine gate_dst (N := 120) rfl ?_); refine Kd.event_run rfl (bs_acc _ 119 rfl _ _ _ _ _ _ _ rfl _) ?_) | ((with_reducible refine gate_builtin (b := .append) (xs := #[.tmp 118, .tmp 120]) rfl ?_); at_builtin; refine Kd.R_append kAcc (w0 := wr) bt rfl (.tmp 118) (.tmp 120) 41 94 (.agg #[.int .i64 0, .int .i64 0, .int .i64 0, .int .i64 0, .bool false, .bool false]) 40 rfl Try.underlying41 info94 rfl (by decide) (by omega) (.slice Ar cur.f8.length cr) cur.f8 (⟨(k : Int), e.f0, e.f4, e.f5, o, false⟩ : Acc) [.int .i64 k, .int .i64 e.f0, .int .i64 e.f4, .int .i64 e.f5, .bool o, .bool false] (fun _ => True) (fun _ => False) rfl rfl (k33_mkM _ _ _ (⟨(k : Int), e.f0, e.f4, e.f5, o, false⟩ : Acc)) (fun _ hk => hk.elim) (fun _ _ => trivial) HM.out.sc.tr.acc (Below.refl _ _) (Nat.le_of_lt HM.out.sc.tr.blk.lt) (by have := HLA.out; omega) ?_; intro v1 w6 hR hB hg hat; have hl1 : (cur.f8 ++ [(⟨(k : Int), e.f0, e.f4, e.f5, o, false⟩ : Acc)]).length = cur.f8.length + 1 := (by simp); obtain ⟨A1, c1, rfl, hc1, hC1⟩ := Kd.R_reads hR; clear hc1 hC1; rw [hl1] at hR hat; clear hl1; have HSA := scan_append HM.out.sc hR hg hat; have HB6 := Veil.mk hB; obtain ⟨x8, y8, hsa⟩ := HSA; have HSA := Veil.mk hsa; clear hsa hR hB hg hat))
                            go_roundw
                            case rel => exact ⟨k + 1, _, _, by omega, by omega, by go_num, HR, ⟨by rw [HRR.out, HTA.out]; exact HSA.out⟩, ⟨(HQn.out.trans (HB6.out.mono HM.out.sc.low)).setCell HM.out.sc.low _⟩⟩
                            case measure => simp [intOf]; omega
                      · have n2 : (e.f0 == 2) = false := by simp [h3]
                        have n3 : (e.f0 == 3) = true := by simp [h3]
                        clear h3
                        go_wp2_with fail
                        obtain ⟨HS5, HA5, HE5, HQ5, hbs, hrw⟩ := acc_new (k := (k : Int)) HQ4.out HT4.out HE4.out
                        have hbt := HT4.out.tr.blk.lt
                        clear q0 q1 q2 q3 q4 q5 q6 p0 p1 p2 p3 p4 p5 p6 p7 p8 HT4 HQ4 HE4
                        generalize wc.alloc (.cells #[.int .i64 k, .int .i64 e.f0, .int .i64 e.f4, .int .i64 e.f5, .bool false, .bool false] 94) = w5 at HS5 HA5 HE5 HQ5 ⊢
                        generalize wc.heap.size = ba at HA5 hbs hrw hbt ⊢
                        have HK5 : Veil (Asks w5 w.heap.size bt be ba k e false cur (.slice Ar cur.f8.length cr) u3 (rtriesUpTo l i)) := ⟨⟨HS5, HE5, HA5, hbs, hrw, hbt⟩⟩
                        have HQ5 := Veil.mk HQ5
                        clear HS5 HA5 HE5 hbs hrw hbt
                        as_aux_lemma =>
                        go_loopw [9] (fun v9 wq => ∃ n : Nat, n ≤ cur.f8.length ∧ v9 = .int .i64 n ∧ Veil (Asks wq w.heap.size bt be ba k e (ownTo e cur.f8 n) cur (.slice Ar cur.f8.length cr) u3 (rtriesUpTo l i)) ∧ Veil (Below w.heap.size w wq)) (fun v9 _ => cur.f8.length - (intOf v9).toNat)
                        case atStart => exact ⟨0, Nat.zero_le _, rfl, ⟨by simpa [ownTo] using HK5.out⟩, HQ5⟩
                        case round =>
                          as_aux_lemma =>
                          obtain ⟨n, hn, rfl, HM, HQn⟩ := hrel
                          have p8 : wr.cell? ⟨bt, 8, none⟩ = some (.slice Ar cur.f8.length cr) := HM.out.sc.tr.blk.cell 8 _ rfl
                          have q0 : wr.cell? ⟨be, 0, none⟩ = some (.int .i64 e.f0) := HM.out.ev.cell 0 _ rfl
                          have q4 : wr.cell? ⟨be, 4, none⟩ = some (.int .i64 e.f4) := HM.out.ev.cell 4 _ rfl
                          by_cases hnl : n < cur.f8.length
                          · have e1 : decide ((n : Int) < (cur.f8.length : Int)) = true := decide_eq_true (by omega)
                            have e2 : (n : Int) < (cur.f8.length : Int) := by omega
                            obtain ⟨g, rfl⟩ := HM.out.sc.tr.form (by omega)
                            obtain ⟨z1, z2, z5, y5⟩ := HM.out.sc.tr.at n cur.f8[n] (List.getElem?_eq_getElem hnl)
                            have HNX := Veil.mk (ownTo_next e cur.f8 hnl)
                            obtain ⟨a, ha⟩ : ∃ a, cur.f8[n] = a := ⟨_, rfl⟩
                            rw [ha] at z1 z2 z5 HNX
                            clear ha z5 y5
                            have a4 : wr.cell? ⟨ba, 4, none⟩ = some (.bool (ownTo e cur.f8 n)) := HM.out.acc.cell 4 _ rfl
                            have f4 : wr.frozen? ⟨ba, 4, none⟩ = false := HM.out.acc.free 4
                            have hot : ownTo e cur.f8 n = false := by unfold ownTo; rw [n2]; rfl
                            rw [hot] at a4
                            have HOT := Veil.mk hot
                            clear hot
                            have N2 := Veil.mk n2
                            go_wp2_with fail
                            go_region
                            go_wp2
                            exact ⟨⟨n + 1, by omega, by go_num, ⟨(HM.out.set _ (by rw [HNX.out, HOT.out, N2.out]; rfl)).drew⟩, ⟨((HQn.out.setCell HM.out.low _).drew)⟩⟩, by simp [intOf]; omega⟩
                          · have e1 : decide ((n : Int) < (cur.f8.length : Int)) = false := decide_eq_false (by omega)
                            have hne : n = cur.f8.length := by omega
                            subst hne
                            obtain ⟨a0, a1, a2, a3, a4, a5⟩ := acc_cells' HM.out.acc
                            have HTA := Veil.mk (ownTo_all cur (k : Int) e)
                            generalize ownTo e cur.f8 cur.f8.length = o at HM a4 HTA
                            go_wp2_with (first | ((with_reducible refine gate_dst (N := 120) rfl ?_); refine Kd.event_run rfl (bs_acc _ 119 rfl _ _ _ _ _ _ _ rfl _) ?_) | ((with_reducible refine gate_builtin (b := .append) (xs := #[.tmp 118, .tmp 120]) rfl ?_); at_builtin; refine Kd.R_append kAcc (w0 := wr) bt rfl (.tmp 118) (.tmp 120) 41 94 (.agg #[.int .i64 0, .int .i64 0, .int .i64 0, .int .i64 0, .bool false, .bool false]) 40 rfl Try.underlying41 info94 rfl (by decide) (by omega) (.slice Ar cur.f8.length cr) cur.f8 (⟨(k : Int), e.f0, e.f4, e.f5, o, false⟩ : Acc) [.int .i64 k, .int .i64 e.f0, .int .i64 e.f4, .int .i64 e.f5, .bool o, .bool false] (fun _ => True) (fun _ => False) rfl rfl (k33_mkM _ _ _ (⟨(k : Int), e.f0, e.f4, e.f5, o, false⟩ : Acc)) (fun _ hk => hk.elim) (fun _ _ => trivial) HM.out.sc.tr.acc (Below.refl _ _) (Nat.le_of_lt HM.out.sc.tr.blk.lt) (by have := HLA.out; omega) ?_; intro v1 w6 hR hB hg hat; have hl1 : (cur.f8 ++ [(⟨(k : Int), e.f0, e.f4, e.f5, o, false⟩ : Acc)]).length = cur.f8.length + 1 := (by simp); obtain ⟨A1, c1, rfl, hc1, hC1⟩ := Kd.R_reads hR; clear hc1 hC1; rw [hl1] at hR hat; clear hl1; have HSA := scan_append HM.out.sc hR hg hat; have HB6 := Veil.mk hB; obtain ⟨x8, y8, hsa⟩ := HSA; have HSA := Veil.mk hsa; clear hsa hR hB hg hat))
                            go_roundw
                            case rel => exact ⟨k + 1, _, _, by omega, by omega, by go_num, HR, ⟨by rw [HRR.out, HTA.out]; exact HSA.out⟩, ⟨(HQn.out.trans (HB6.out.mono HM.out.sc.low)).setCell HM.out.sc.low _⟩⟩
                            case measure => simp [intOf]; omega
                    by_cases k4 : e.f0 = 4
                    · have n2 : (e.f0 == 2) = false := by simp; omega
                      have n3 : (e.f0 == 3) = false := by simp; omega
                      have n4 : (e.f0 == 4) = true := by simp [k4]
                      have HRR : Veil (rturn cur k e = withAcc cur (cur.f8.map (relAcc e.f4))) := ⟨by unfold rturn; rw [if_neg k23, if_pos k4]⟩
                      clear k23 k4
                      have hla := HLA.out
                      go_wp2_with fail
                      as_aux_lemma =>
                      clear q0 q1 q2 q3 q4 q5 q6 p0 p1 p2 p3 p4 p5 p6 p7 p8
                      go_loopw [10] (fun v10 wq => ∃ n : Nat, n ≤ cur.f8.length ∧ v10 = .int .i64 n ∧ Veil (Scan wq w.heap.size bt (withAcc cur (relTo e.f4 cur.f8 n)) (.slice Ar cur.f8.length cr) u3 (rtriesUpTo l i)) ∧ Veil (Below w.heap.size w wq) ∧ Veil (Blk wq be 31 (evC e))) (fun v10 _ => cur.f8.length - (intOf v10).toNat)
                      case atStart => exact ⟨0, Nat.zero_le _, rfl, ⟨by simpa [relTo, withAcc] using HT4.out⟩, HQ4, HE4⟩
                      case round =>
                        as_aux_lemma =>
                        obtain ⟨n, hn, rfl, HM, HQn, HEn⟩ := hrel
                        obtain ⟨p0, p1, p2, p3, p4, p5, p6, p7, p8⟩ := HM.out.tr.cells
                        have q4 : wr.cell? ⟨be, 4, none⟩ = some (.int .i64 e.f4) := HEn.out.cell 4 _ rfl
                        by_cases hnl : n < cur.f8.length
                        · have e1 : decide ((n : Int) < (cur.f8.length : Int)) = true := decide_eq_true (by omega)
                          obtain ⟨g, rfl⟩ := HM.out.tr.form (by show 0 < (relTo e.f4 cur.f8 n).length; rw [relTo_length]; omega)
                          obtain ⟨z1, z2, z5, y5⟩ := HM.out.tr.at n cur.f8[n] (relTo_at e.f4 cur.f8 n hnl)
                          obtain ⟨a, ha⟩ : ∃ a, cur.f8[n] = a := ⟨_, rfl⟩
                          have HAA := Veil.mk ha
                          rw [ha] at z1 z2 z5
                          clear ha
                          by_cases hp : a.f1 = 2
                          · have m1 : (a.f1 == 2) = true := beq_iff_eq.2 hp
                            clear hp
                            by_cases hq : a.f2 = e.f4
                            · have m2 : (a.f2 == e.f4) = true := beq_iff_eq.2 hq
                              clear hq
                              go_wp2_with fail
                              go_quiet (fail)
                              go_wp2
                              go_roundw
                              case rel => exact ⟨n + 1, by omega, by go_num, ⟨by rw [relTo_next e.f4 cur.f8 n hnl, HAA.out, relAcc_yes m1 m2]; exact (HM.out.drewN _).mark (HAA.out ▸ relTo_at e.f4 cur.f8 n hnl)⟩, ⟨(HQn.out.drewN _).setCell (Nat.le_trans HM.out.low (row_from HM.out.tr.acc (k := g) rfl)) _⟩, ⟨HEn.out.far (fun hh => absurd ((blk_typed HEn.out).ne (row_typed HM.out.tr.acc (by rw [hh]; rfl))) (by decide)) _⟩⟩
                              case measure => simp [intOf]; omega
                            · have m2 : (a.f2 == e.f4) = false := beq_eq_false_iff_ne.2 hq
                              clear hq
                              go_wp2_with fail
                              go_quiet (fail)
                              go_wp2
                              go_roundw
                              case rel => exact ⟨n + 1, by omega, by go_num, ⟨by rw [relTo_same hnl HAA.out (relAcc_no2 m2)]; exact HM.out.drewN _⟩, ⟨HQn.out.drewN _⟩, HEn⟩
                              case measure => simp [intOf]; omega
                          · have m1 : (a.f1 == 2) = false := beq_eq_false_iff_ne.2 hp
                            clear hp
                            go_wp2_with fail
                            go_quiet (fail)
                            go_wp2
                            go_roundw
                            case rel => exact ⟨n + 1, by omega, by go_num, ⟨by rw [relTo_same hnl HAA.out (relAcc_no1 m1)]; exact HM.out.drewN _⟩, ⟨HQn.out.drewN _⟩, HEn⟩
                            case measure => simp [intOf]; omega
                        · have e1 : decide ((n : Int) < (cur.f8.length : Int)) = false := decide_eq_false (by omega)
                          have HF : Veil (Scan wr w.heap.size bt (withAcc cur (cur.f8.map (relAcc e.f4))) (.slice Ar cur.f8.length cr) u3 (rtriesUpTo l i)) := ⟨by have := HM.out; rwa [show n = cur.f8.length by omega, relTo_all] at this⟩
                          go_wp2
                          go_roundw
                          case rel => exact ⟨k + 1, _, _, by omega, by omega, by go_num, HR, ⟨by rw [HRR.out]; exact HF.out⟩, HQn⟩
                          case measure => simp [intOf]; omega
                    have n2 : (e.f0 == 2) = false := by simp; omega
                    have n3 : (e.f0 == 3) = false := by simp; omega
                    have n4 : (e.f0 == 4) = false := by simp; omega
                    by_cases k5 : e.f0 = 5
                    · have n5 : (e.f0 == 5) = true := by simp [k5]
                      have HRR : Veil (rturn cur k e = { cur with f5 := k, f7 := true }) := ⟨by unfold rturn; rw [if_neg k23, if_neg k4, if_pos k5]⟩
                      have z5 := HT4.out.tr.blk.free 5
                      have z7 := HT4.out.tr.blk.free 7
                      clear k23 k4 k5
                      go_wp2
                      go_roundw
                      case rel => exact ⟨k + 1, _, _, by omega, by omega, by go_num, HR, ⟨by rw [HRR.out]; exact ((HT4.out.set (cur' := { cur with f5 := (k : Int) }) 5 (.int .i64 k) rfl rfl).set (cur' := { cur with f5 := (k : Int), f7 := true }) 7 (.bool true) rfl rfl)⟩, ⟨((HQ4.out.setCell HT4.out.low _).setCell HT4.out.low _)⟩⟩
                      case measure => simp [intOf]; omega
                    by_cases k6 : e.f0 = 6
                    · have n5 : (e.f0 == 5) = false := by simp; omega
                      have n6 : (e.f0 == 6) = true := by simp [k6]
                      have HRR : Veil (rturn cur k e = { cur with f5 := k, f6 := e.f6 }) := ⟨by unfold rturn; rw [if_neg k23, if_neg k4, if_neg k5, if_pos k6]⟩
                      have z5 := HT4.out.tr.blk.free 5
                      have z6 := HT4.out.tr.blk.free 6
                      have hne : be ≠ bt := HE4.out.ne HT4.out.tr.blk (by decide)
                      clear k23 k4 k5 k6
                      go_wp2
                      go_roundw
                      case rel => exact ⟨k + 1, _, _, by omega, by omega, by go_num, HR, ⟨by rw [HRR.out]; exact ((HT4.out.set (cur' := { cur with f5 := (k : Int) }) 5 (.int .i64 k) rfl rfl).set (cur' := { cur with f5 := (k : Int), f6 := e.f6 }) 6 (.int .i64 e.f6) rfl rfl)⟩, ⟨((HQ4.out.setCell HT4.out.low _).setCell HT4.out.low _)⟩⟩
                      case measure => simp [intOf]; omega
                    · have n5 : (e.f0 == 5) = false := by simp; omega
                      have n6 : (e.f0 == 6) = false := by simp; omega
                      have HRR : Veil (rturn cur k e = cur) := ⟨by unfold rturn; rw [if_neg k23, if_neg k4, if_neg k5, if_neg k6]⟩
                      clear k23 k4 k5 k6
                      go_wp2
                      go_roundw
                      case rel => exact ⟨k + 1, _, _, by omega, by omega, by go_num, HR, ⟨by rw [HRR.out]; exact HT4.out⟩, HQ4⟩
                      case measure => simp [intOf]; omega
              · have d2 : decide (cur.f5 < 0) = false := decide_eq_false ho
                have HF : Veil (rscan l x i l.length = cur) := ⟨by rw [← HK.out, show l.length = k + (l.length - k) by omega]; exact rscan_stay _ _ (by omega) (by omega) (by rw [HK.out]; omega)⟩
                go_wp2_with fail
                go_meet
                case rel => exact ⟨_, ⟨by rw [HF.out]; exact HT.out⟩, HQ⟩
            · have d1 : decide ((k : Int) < (l.length : Int)) = false := decide_eq_false (by omega)
              have HF : Veil (rscan l x i l.length = cur) := ⟨by rw [← HK.out, show l.length = k by omega]⟩
              go_wp2_with fail
              go_meet
              case rel => exact ⟨_, ⟨by rw [HF.out]; exact HT.out⟩, HQ⟩
        case rest =>
          as_aux_lemma =>
          obtain ⟨row, HT, HQ⟩ := hcut
          have HLS : Veil ((rscan l x i l.length).f8.length ≤ 1000) := ⟨Nat.le_trans (rscan_acc l x i l.length) hl⟩
          have HN : Veil (rtriesUpTo l (i + 1) = rtriesUpTo l i ++ [rscan l x i l.length]) := ⟨by rw [rtriesUpTo_next, HP.out, HG.out, if_pos rfl]⟩
          obtain ⟨cur, hcur⟩ : ∃ cur, rscan l x i l.length = cur := ⟨_, rfl⟩
          rw [hcur] at HT HLS HN
          clear hcur
          have HLO : Veil ((rtriesUpTo l i).length ≤ 1000) := ⟨Nat.le_trans (rtriesUpTo_length l i) (by omega)⟩
          obtain ⟨out, hout⟩ : ∃ out, rtriesUpTo l i = out := ⟨_, rfl⟩
          rw [hout] at HT HLO HN
          clear hout
          obtain ⟨Ar, cr, rfl, hcr, hCr⟩ := Kd.R_reads HT.out.tr.acc
          clear hcr hCr
          obtain ⟨p0, p1, p2, p3, p4, p5, p6, p7, p8⟩ := HT.out.tr.cells
          have HAP := Veil.mk (And.intro (scan_push HT.out).1 (And.intro (scan_push HT.out).2 (And.intro HT.out.outR (And.intro HQ.out HQ.out.size))))
          have HAL : Veil ((out.length + 1) * 88 ≤ 140737488355328) := ⟨by have := HLO.out; omega⟩
          go_wp2_with (first | ((with_reducible refine gate_dst (N := 169) rfl ?_); refine Kd.event_run rfl (bs_try _ 168 rfl _ _ _ _ _ _ _ _ _ _ rfl _) ?_) | ((with_reducible refine gate_builtin (b := .append) (xs := #[.tmp 167, .tmp 169]) rfl ?_); at_builtin; go_must (refine Kd.R_append kRt (w0 := w) w.heap.size rfl (.tmp 167) (.tmp 169) 39 43 (.agg #[.int .i64 0, .int .i64 0, .int .i64 0, .int .i64 0, .int .i64 0, .int .i64 0, .int .i64 0, .bool false, .slice none 0 0]) 88 rfl Try.underlying39 info43 rfl (Nat.succ_pos 8) (Nat.succ_pos 87) u3 out cur _ (fun _ => True) (fun k => bt ≤ k) ?hs ?hx ?hp ?hq (fun _ _ => trivial) ?ho ?hb ?hz ?hl ?_); go_must (case hs => rfl); go_must (case hx => rfl); go_must (case ho => exact HAP.out.2.2.1); go_must (case hb => exact HAP.out.2.2.2.1); go_must (case hz => exact HAP.out.2.2.2.2); go_must (case hl => exact HAL.out); go_must (case hq => exact HAP.out.2.1); go_must (case hp => exact HAP.out.1); intro v1 w6 hR hB hg hat; have HRN := Veil.mk hR; have HB6 := Veil.mk hB; clear hR hB hg hat))
          exact ⟨⟨i + 1, by omega, by go_num, ⟨by rw [HN.out]; exact HRN.out⟩, HB6⟩, by simp [intOf]; omega⟩
      · have e1 : (x.f0 != 1) = true := by simp [hp]
        have HP : Veil (beginAt l i = false) := ⟨by rw [HB.out]; simpa using hp⟩
        clear hp
        go_wp2
        go_roundw
        case rel => exact ⟨i + 1, by omega, by go_num, ⟨by rw [rtriesUpTo_next, HP.out]; simpa using HO.out⟩, HW⟩
        case measure => simp [intOf]; omega
    · have hil : i = l.length := by omega
      have hlti : decide ((i : Int) < (l.length : Int)) = false := decide_eq_false (by omega)
      have HF := HO.out
      rw [hil] at HF
      clear hil
      have HF := Veil.mk HF
      go_wp2
      go_ret
      exact ⟨_, rfl, HF.out, HW.out⟩
end Go.Proofs.Ytjmnbbflahacoaa.Hist
