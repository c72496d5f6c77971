/- hist, eighth part: an event's walk. No condition. -/
import Derived.Test.YtjmnbbflahacoaaHistG
import Derived.Outline
namespace Go.Proofs.Ytjmnbbflahacoaa.Hist
open Go.RowKit Go.ChangeMaps Go.Maps Go.Proofs.Ytjmnbbflahacoaa.Mem Go.Proofs.Ytjmnbbflahacoaa.PHistTells Go.Proofs.YtjmnbbflahacoaaW.PrintWords
set_option linter.unusedVariables false
set_option linter.unusedSimpArgs false

/-- What an event leaves. -/
def EventPost (w : World) (base bb : Nat) (ts : List Tr) (ml mc : Nat) (i : Int) (e : Ev) (ed : Ending) (w' : World) : Prop :=
  ed = .returned (.bool (stepM ts i e).isSome) ∧ Below base w w' ∧ ∀ ts', stepM ts i e = some ts' → ∃ bs' ro' rv', BookAt w' base bb bs' ro' ts' rv' ml mc

theorem eventPost_none {w w' : World} {base bb : Nat} {ts : List Tr} {ml mc : Nat} {i : Int} {e : Ev} {x : Value} (hx : x = .bool false) (hb : Below base w w') (hs : stepM ts i e = none) : EventPost w base bb ts ml mc i e (.returned x) w' :=
  ⟨by rw [hs, hx]; rfl, hb, fun ts' h => by rw [hs] at h; cases h⟩
theorem eventPost_some {w w' : World} {base bb : Nat} {ts ts' : List Tr} {ml mc : Nat} {i : Int} {e : Ev} {x : Value} (hx : x = .bool true) (hb : Below base w w') (hs : stepM ts i e = some ts') {bs' : List Nat} {ro' : Nat → Value} {rv' : Value} (hB : BookAt w' base bb bs' ro' ts' rv' ml mc) : EventPost w base bb ts ml mc i e (.returned x) w' :=
  ⟨by rw [hs, hx]; rfl, hb, fun ts'' h => by rw [hs] at h; injection h with h; subst h; exact ⟨_, _, _, hB⟩⟩

/-- What is there behind event's look-up. -/
structure EventAt (w w1 : World) (base bb : Nat) (bs : List Nat) (ro : Nat → Value) (ts : List Tr) (rv : Value) (ml mc : Nat) (e : Ev) : Prop where
  ev : Blk w1 w.heap.size 31 (evC e)
  book : BookAt w1 base bb bs ro ts rv ml mc
  below : Below w.heap.size w w1
  base : base ≤ w.heap.size
theorem EventAt.drewN {w w1 : World} {base bb : Nat} {bs : List Nat} {ro : Nat → Value} {ts : List Tr} {rv : Value} {ml mc : Nat} {e : Ev} (h : EventAt w w1 base bb bs ro ts rv ml mc e) (n : Nat) : EventAt w (w1.drewN n) base bb bs ro ts rv ml mc e :=
  ⟨h.ev.drewN n, h.book.below (below_drewN n), h.below.drewN n, h.base⟩

theorem event_turned {w w2 w3 : World} {base bb : Nat} {bs : List Nat} {ro : Nat → Value} {ts : List Tr} {rv : Value} {ml mc : Nat} {i : Int} {e : Ev} (HA : EventAt w w2 base bb bs ro ts rv ml mc e) {k b : Nat} {t t' : Tr} {row' x : Value} (hkb : bs[k]? = some b) (hkt : ts[k]? = some t)
    (hT : TryAt w3 base b t' row') (hu : Upd (fun j => j = b ∨ (ro b).ownBlock = some j) w2 w3) (hr : row'.ownBlock = (ro b).ownBlock ∨ ∃ j, row'.ownBlock = some j ∧ w2.heap.size ≤ j) (h0 : t'.f0 = t.f0) (h1 : t'.f1 = t.f1)
    (hs : stepM ts i e = some (ts.set k t')) (hx : x = .bool true) : EventPost w base bb ts ml mc i e (.returned x) w3 := by
  have hTb := HA.book.tries k b t hkb hkt
  refine eventPost_some hx ((HA.below.mono HA.base).trans (hu.below (Nat.le_trans HA.base HA.below.size) (fun j hj hS => ?_))) hs (HA.book.turn hkb hkt hT hu hr h0 h1)
  rcases hS with rfl | hS
  · have := hTb.low; omega
  · obtain ⟨inner, ho⟩ := Kd.R_own hTb.acc
    have := own_base ho j hS
    omega
theorem TryAt.put {w : World} {base b : Nat} {t t' : Tr} {row : Value} (h : TryAt w base b t row) (o : Nat) (v : Value) (hc : (trC t row).set o v = trC t' row) (h8 : t'.f8 = t.f8) : TryAt (w.setCell ⟨b, o, none⟩ v) base b t' row := by
  have hn := not_row h
  refine ⟨hc ▸ h.blk.set o v, h.low, ?_⟩
  rw [h8]
  exact Kd.R_mono (Kd.R_far (p := ⟨b, o, none⟩) (Kd.R_tight (by rfl) h.acc) (fun k hk he => hn (by rw [← hk]; exact congrArg some he.symm)) _) (fun _ _ => trivial)

set_option maxHeartbeats 1600000 in
set_option maxRecDepth 100000 in
theorem event_any (w : World) (base bb : Nat) (bs : List Nat) (ro : Nat → Value) (ts : List Tr) (rv : Value) (ml mc : Nat) (i : Int) (e : Ev) (hB : BookAt w base bb bs ro ts rv ml mc) (hl : ts.length ≤ 1000000000) (hacc : ∀ t ∈ ts, t.f8.length ≤ 1000000000) (hbase : base ≤ w.heap.size) (he : EvOk e) :
    Calls Try.prog 74 #[.pointer (some ⟨bb, 0, none⟩), .int .i64 i, evV e] w (EventPost w base bb ts ml mc i e) := by
  have HA0 : Veil (EventAt w (w.alloc (.cells #[.int .i64 e.f0, .int .i64 e.f1, .int .i64 e.f2, .int .i64 e.f3, .int .i64 e.f4, .int .i64 e.f5, .int .i64 e.f6] 31)) base bb bs ro ts rv ml mc e) :=
    ⟨⟨Blk.new w _ _, hB.below ((Below.refl _ _).alloc (Nat.le_refl _) _), (Below.refl _ _).alloc (Nat.le_refl _) _, hbase⟩⟩
  obtain ⟨v, hv⟩ : ∃ v, (lastM bs ts (.int .i64 e.f1)).getD (.pointer none) = v := ⟨_, rfl⟩
  have hl1 := fun n => last_look (HA0.out.book.below (below_drewN n)).lastAt he.w1
  rw [hv] at hl1
  have b1 := HA0.out.book.blk.cell 1 _ rfl
  have HL := Veil.mk hl
  have HAC := Veil.mk hacc
  have HE := Veil.mk he
  have HV := Veil.mk hv
  clear hB hl hacc hbase he hv
  unfold evV
  go_enter Try.func74, Try.ntmps74
  go_wp2_with fail
  go_quiet (fail)
  have HA1 := Veil.mk (HA0.out.drewN nq)
  clear hl1 b1 HA0
  generalize (w.alloc (.cells #[.int .i64 e.f0, .int .i64 e.f1, .int .i64 e.f2, .int .i64 e.f3, .int .i64 e.f4, .int .i64 e.f5, .int .i64 e.f6] 31)).drewN nq = w1 at *
  have c0 := HA1.out.ev.cell 0 _ rfl
  have c1 := HA1.out.ev.cell 1 _ rfl
  have c2 := HA1.out.ev.cell 2 _ rfl
  have c3 := HA1.out.ev.cell 3 _ rfl
  have c4 := HA1.out.ev.cell 4 _ rfl
  have c5 := HA1.out.ev.cell 5 _ rfl
  have c6 := HA1.out.ev.cell 6 _ rfl
  cases h1 : (e.f0 == 1) with
  | true =>
    have H1 := Veil.mk h1
    go_wp2_with (first | (go_at_call 90; go_must (refine (begin_any w1 base bb bs ro ts rv ml mc i e HA1.out.book HL.out (Nat.le_trans HA1.out.base HA1.out.below.size) HE.out).mono ?_; rintro ed w2 ⟨rfl, hbw, hbook⟩; have HBW := Veil.mk hbw; have HBK := Veil.mk hbook; clear hbw hbook)))
    go_ret
    have hs := stepM_begin (ts := ts) (i := i) H1.out
    cases hok : beginOk ts e with
    | true =>
      rw [hok, if_pos rfl] at hs
      obtain ⟨bs', ro', rv', hb⟩ := HBK.out hok
      exact eventPost_some rfl ((HA1.out.below.mono HA1.out.base).trans HBW.out) hs hb
    | false =>
      rw [hok, if_neg (by decide)] at hs
      exact eventPost_none rfl ((HA1.out.below.mono HA1.out.base).trans HBW.out) hs
  | false =>
    have H1 := Veil.mk h1
    cases h7 : (e.f0 == 7) with
    | true =>
      have H7 := Veil.mk h7
      go_wp2_with (first | (go_at_call 91; go_must (have hoo := open_of HA1.out.book e.f1; rw [HV.out] at hoo; refine hoo.mono ?_; rintro ed w2 ⟨rfl, rfl⟩; clear hoo)))
      go_ret
      have hs := stepM_refuse (ts := ts) (i := i) H1.out H7.out
      cases hop : isOpen ts e.f1 with
      | true =>
        rw [hop, if_pos rfl] at hs
        exact eventPost_none rfl (HA1.out.below.mono HA1.out.base) hs
      | false =>
        rw [hop, if_neg (by decide)] at hs
        exact eventPost_some rfl (HA1.out.below.mono HA1.out.base) hs HA1.out.book
    | false =>
      have H7 := Veil.mk h7
      have HO := fun n => (open_of (HA1.out.drewN n).book e.f1).mono (fun _ _ h => And.intro h.1 h.2.symm)
      rw [HV.out] at HO
      cases hop : isOpen ts e.f1 with
      | false =>
        have hs := stepM_shut (ts := ts) (i := i) H1.out H7.out hop
        rw [hop] at HO
        have HQ := Veil.mk HO
        have HS := Veil.mk hs
        clear hop hs HO
        go_wp2_with fail
        go_quiet (first | (go_at_call 91; exact Calls.quiet_of_same (HQ.out _)))
        go_wp2
        go_ret
        exact eventPost_none rfl ((HA1.out.below.mono HA1.out.base).drewN _) HS.out
      | true =>
        obtain ⟨k, t, hk, ht, hneg, hth⟩ := isOpen_of hop
        have hkl : k < bs.length := by rw [HA1.out.book.len]; exact lastOf_lt hk
        obtain ⟨b, hb⟩ : ∃ b, bs[k]? = some b := ⟨_, List.getElem?_eq_getElem hkl⟩
        have hvb : v = .pointer (some ⟨b, 0, none⟩) := by rw [← HV.out]; exact lastM_at hk hb
        subst hvb
        have hs := stepM_open (ts := ts) (i := i) H1.out H7.out hk ht hneg
        rw [hop] at HO
        have HQ := Veil.mk HO
        have HS := Veil.mk hs
        have HB := Veil.mk hb
        have HT := Veil.mk ht
        clear hop hs HO hkl hk hneg hth hb ht
        have HTa := Veil.mk (HA1.out.book.tries k b t HB.out HT.out)
        have t1 := HTa.out.blk.cell 1 _ rfl
        have t2 := HTa.out.blk.cell 2 _ rfl
        cases hg1 : (t.f1 == e.f2) with
        | false =>
          rw [hg1] at HS
          have HS' : Veil (stepM ts i e = none) := ⟨HS.out⟩
          have hn1 : (t.f1 != e.f2) = true := by unfold bne; rw [hg1]; rfl
          clear HS
          go_wp2_with fail
          go_quiet (first | (go_at_call 91; exact Calls.quiet_of_same (HQ.out _)))
          go_wp2
          go_ret
          exact eventPost_none rfl ((HA1.out.below.mono HA1.out.base).drewN _) HS'.out
        | true =>
          cases hg2 : (t.f2 == e.f3) with
          | false =>
            rw [hg1, hg2] at HS
            have HS' : Veil (stepM ts i e = none) := ⟨HS.out⟩
            have hn1 : (t.f1 != e.f2) = false := by unfold bne; rw [hg1]; rfl
            have hn2 : (t.f2 != e.f3) = true := by unfold bne; rw [hg2]; rfl
            clear HS
            go_wp2_with fail
            go_quiet (first | (go_at_call 91; exact Calls.quiet_of_same (HQ.out _)))
            go_wp2
            go_ret
            exact eventPost_none rfl ((HA1.out.below.mono HA1.out.base).drewN _) HS'.out
          | true =>
            rw [hg1, hg2] at HS
            have HS' : Veil (stepM ts i e = (turnTr t i e).map (ts.set k)) := ⟨HS.out⟩
            have hn1 : (t.f1 != e.f2) = false := by unfold bne; rw [hg1]; rfl
            have hn2 : (t.f2 != e.f3) = false := by unfold bne; rw [hg2]; rfl
            clear HS
            go_wp2_with fail
            go_quiet (first | (go_at_call 91; exact Calls.quiet_of_same (HQ.out _)))
            have HA2 := Veil.mk (HA1.out.drewN nq)
            clear HQ HTa t1 t2 c0 c1 c2 c3 c4 c5 c6 hn1 hn2 HA1
            generalize w1.drewN nq = w2 at *
            have HTb := Veil.mk (HA2.out.book.tries k b t HB.out HT.out)
            have c0 := HA2.out.ev.cell 0 _ rfl
            have c1 := HA2.out.ev.cell 1 _ rfl
            have c2 := HA2.out.ev.cell 2 _ rfl
            have c3 := HA2.out.ev.cell 3 _ rfl
            have c4 := HA2.out.ev.cell 4 _ rfl
            have c5 := HA2.out.ev.cell 5 _ rfl
            have c6 := HA2.out.ev.cell 6 _ rfl
            cases h2 : (e.f0 == 2) with
            | true =>
              have hs : stepM ts i e = some (ts.set k (withAcc t (t.f8 ++ [accOf t i e]))) := by rw [HS'.out]; unfold turnTr; rw [if_pos (by rw [h2]; rfl)]; rfl
              go_wp2_with (first | (go_at_call 92; go_must (refine (access_any w2 base b t (ro b) i e HTb.out (HAC.out t (List.mem_of_getElem? HT.out)) (Nat.le_trans HA2.out.base HA2.out.below.size)).mono ?_; rintro ed w3 ⟨rfl, hacc⟩; have HC := Veil.mk hacc; clear hacc)))
              go_ret
              obtain ⟨row', hT', hu, hr⟩ := HC.out
              exact event_turned HA2.out HB.out HT.out hT' hu hr rfl rfl hs rfl
            | false =>
              cases h3 : (e.f0 == 3) with
              | true =>
                have hs : stepM ts i e = some (ts.set k (withAcc t (t.f8 ++ [accOf t i e]))) := by rw [HS'.out]; unfold turnTr; rw [if_pos (by rw [h3]; simp)]; rfl
                go_wp2_with (first | (go_at_call 92; go_must (refine (access_any w2 base b t (ro b) i e HTb.out (HAC.out t (List.mem_of_getElem? HT.out)) (Nat.le_trans HA2.out.base HA2.out.below.size)).mono ?_; rintro ed w3 ⟨rfl, hacc⟩; have HC := Veil.mk hacc; clear hacc)))
                go_ret
                obtain ⟨row', hT', hu, hr⟩ := HC.out
                exact event_turned HA2.out HB.out HT.out hT' hu hr rfl rfl hs rfl
              | false =>
                cases h4 : (e.f0 == 4) with
                | true =>
                  have hs : stepM ts i e = some (ts.set k (withAcc t (t.f8.map (relAcc e.f4)))) := by rw [HS'.out]; unfold turnTr; rw [if_neg (by rw [h2, h3]; decide), if_pos h4]; rfl
                  go_wp2_with (first | (go_at_call 93; go_must (refine (release_any w2 base b t (ro b) e.f4 HTb.out (HAC.out t (List.mem_of_getElem? HT.out))).mono ?_; rintro ed w3 ⟨rfl, hacc⟩; have HC := Veil.mk hacc; clear hacc)))
                  go_ret
                  exact event_turned HA2.out HB.out HT.out HC.out.1 (HC.out.2.mono (fun _ _ h => .inr h)) (.inl rfl) rfl rfl hs rfl
                | false =>
                  have t5 := HTb.out.blk.cell 5 _ rfl
                  have t6 := HTb.out.blk.cell 6 _ rfl
                  have t7 := HTb.out.blk.cell 7 _ rfl
                  have f5 := HTb.out.blk.free 5
                  have f6 := HTb.out.blk.free 6
                  have f7 := HTb.out.blk.free 7
                  cases h5 : (e.f0 == 5) with
                  | true =>
                    have hs : stepM ts i e = some (ts.set k { t with f5 := i, f7 := true }) := by rw [HS'.out]; unfold turnTr; rw [if_neg (by rw [h2, h3]; decide), if_neg (by rw [h4]; decide), if_pos h5]; rfl
                    go_wp2
                    go_ret
                    exact event_turned HA2.out HB.out HT.out ((HTb.out.put (t' := { t with f5 := i }) 5 (.int .i64 i) rfl rfl).put (t' := { t with f5 := i, f7 := true }) 7 (.bool true) rfl rfl) (((Upd.refl _ _).setCell (p := ⟨b, 5, none⟩) (fun _ => .inl rfl) _).setCell (p := ⟨b, 7, none⟩) (fun _ => .inl rfl) _) (.inl rfl) rfl rfl hs rfl
                  | false =>
                    cases h6 : (e.f0 == 6) with
                    | true =>
                      have hs : stepM ts i e = some (ts.set k { t with f5 := i, f6 := e.f6 }) := by rw [HS'.out]; unfold turnTr; rw [if_neg (by rw [h2, h3]; decide), if_neg (by rw [h4]; decide), if_neg (by rw [h5]; decide), if_pos h6]; rfl
                      have HSS := Veil.mk hs
                      clear hs
                      go_wp2_with fail
                      go_region
                      go_wp2
                      go_ret
                      exact event_turned HA2.out HB.out HT.out (((HTb.out.put (t' := { t with f5 := i }) 5 (.int .i64 i) rfl rfl).put (t' := { t with f5 := i, f6 := e.f6 }) 6 (.int .i64 e.f6) rfl rfl).below (below_drewN 1)) ((((Upd.refl _ _).setCell (p := ⟨b, 5, none⟩) (fun _ => .inl rfl) _).setCell (p := ⟨b, 6, none⟩) (fun _ => .inl rfl) _).drewN 1) (.inl rfl) rfl rfl HSS.out rfl
                    | false =>
                      have hs : stepM ts i e = none := by rw [HS'.out]; unfold turnTr; rw [if_neg (by rw [h2, h3]; decide), if_neg (by rw [h4]; decide), if_neg (by rw [h5]; decide), if_neg (by rw [h6]; decide)]; rfl
                      have HSS := Veil.mk hs
                      clear hs
                      go_wp2
                      go_ret
                      exact eventPost_none rfl (HA2.out.below.mono HA2.out.base) HSS.out
end Go.Proofs.Ytjmnbbflahacoaa.Hist
