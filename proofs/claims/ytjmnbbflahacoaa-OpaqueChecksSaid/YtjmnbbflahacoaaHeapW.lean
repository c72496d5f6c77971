/- container/heap's up, down, Push and Pop over opaque's things, walked. No condition. -/
import Derived.Test.YtjmnbbflahacoaaHeapP
namespace Go.Proofs.Ytjmnbbflahacoaa.Opq
open Go.RowKit Go.Proofs.Ytjmnbbflahacoaa.Mem Go.Proofs.Ytjmnbbflahacoaa.Hist Go.Proofs.Ytjmnbbflahacoaa.PHistTells Go.Proofs.YtjmnbbflahacoaaW.PrintWords
set_option linter.unusedVariables false
set_option linter.unusedSimpArgs false

set_option maxHeartbeats 8000000 in
set_option maxRecDepth 100000 in
theorem up_any (w : World) (base b : Nat) (A : Option Addr) (c : Nat) (xs : List Th) (j : Nat) (h : HeapAt w base b A c xs) (hj : j < xs.length) (hu : UpTo xs j) (hl : xs.length ≤ 100000) :
    Calls Try.prog 88 #[.iface 111 (.pointer (some ⟨b, 0, none⟩)), .int .i64 j] w fun e w' => (∃ v, e = .returned v) ∧ (∃ ys, HeapAt w' base b A c ys ∧ ys.Perm xs ∧ HeapL ys) ∧ Below base w w' := by
  have H0 : Veil (HeapAt w base b A c xs ∧ xs.Perm xs ∧ UpTo xs j) := ⟨h, List.Perm.refl _, hu⟩
  have HJ := Veil.mk hj
  have HL := Veil.mk hl
  have HBS := Veil.mk (Nat.le_trans h.low (Nat.le_of_lt h.box.lt))
  clear h hu
  go_enter Try.func88, Try.ntmps88
  go_wp2_with fail
  go_loopw [1] (fun v1 wr => ∃ (k : Nat) (ys : List Th), v1 = .int .i64 k ∧ k < ys.length ∧ ys.length = xs.length ∧ Veil (HeapAt wr base b A c ys ∧ ys.Perm xs ∧ UpTo ys k) ∧ Veil (Below base w wr)) (fun v1 _ => (intOf v1).toNat)
  case atStart => exact ⟨j, xs, rfl, HJ.out, rfl, H0, ⟨Below.refl _ _⟩⟩
  case round =>
    obtain ⟨k, ys, rfl, hk, hyl, HI, HB⟩ := hrel
    have hl := HL.out
    rw [← hyl] at hl
    have HYL := Veil.mk hyl
    clear hyl
    have HBZ := Veil.mk (Nat.le_trans HBS.out HB.out.size)
    by_cases hk0 : k = 0
    · subst hk0
      have HF := Veil.mk (up_done0 HI.out.2.2)
      as_aux_lemma =>
      go_wp2
      go_end0
      exact ⟨⟨_, rfl⟩, ⟨ys, HI.out.1, HI.out.2.1, HF.out⟩, HB.out⟩
    · as_aux_lemma =>
      obtain ⟨p, hp⟩ : ∃ p, (k - 1) / 2 = p := ⟨_, rfl⟩
      have hpk : p < k := by omega
      have hpl : p < ys.length := by omega
      have he : ((k : Int) - 1) / 2 = (p : Int) := by omega
      have d1 : ((p : Int) == (k : Int)) = false := beq_eq_false_iff_ne.2 (by omega)
      have d2 : (p == k) = false := beq_eq_false_iff_ne.2 (by omega)
      have hk1 : 1 ≤ (k : Int) := by omega
      have hk2 : (k : Int) ≤ 100000 := by omega
      have s0 := HI.out.1.box.cell 0 _ rfl
      have hm := m_less wr b _ s0
      have HLS := Veil.mk (less_any wr base b A c ys k p HI.out.1 hk hpl hl)
      have HDO : Veil (ltT ys[k] ys[p] = false → HeapL ys) := ⟨fun h => by subst hp; exact up_done hk (by omega) HI.out.2.2 h⟩
      have HST : Veil (ltT ys[k] ys[p] = true → UpTo (swapL ys p k hpl hk) p) := ⟨fun h => by subst hp; exact up_step hk (by omega) HI.out.2.2 h⟩
      have HSP := Veil.mk (swapL_perm ys p k hpl hk)
      have HSL := Veil.mk (swapL_length ys p k hpl hk)
      have HSW := Veil.mk (fun (W : World) (hW : HeapAt W base b A c ys) => swap_any W base b A c ys p k hW hpl hk hl)
      cases hlt : ltT ys[k] ys[p] with
      | false =>
        have HF := Veil.mk (HDO.out hlt)
        rw [hlt] at HLS
        clear hlt hp
        go_wp2_with (first | (go_at_call 139; go_must (refine HLS.out.mono ?_; rintro ed w2 ⟨rfl, hb⟩; have HB2 := Veil.mk hb; clear hb)))
        go_end0
        exact ⟨⟨_, rfl⟩, ⟨ys, HI.out.1.step HB2.out, HI.out.2.1, HF.out⟩, HB.out.trans (HB2.out.mono HBZ.out)⟩
      | true =>
        have HF := Veil.mk (HST.out hlt)
        rw [hlt] at HLS
        clear hlt hp
        go_wp2_with (first | (go_at_call 139; go_must (refine HLS.out.mono ?_; rintro ed w2 ⟨rfl, hb⟩; have HB2 := Veil.mk hb; have HH2 := Veil.mk (HI.out.1.step hb); have s2 := HH2.out.box.cell 0 _ rfl; have hm2 := m_swap w2 b _ s2; clear hb)) | (go_at_call 142; go_must (refine (HSW.out _ HH2.out).mono ?_; rintro ed w3 ⟨⟨v, rfl⟩, hh, hb, _⟩; have HB3 := Veil.mk hb; have HH3 := Veil.mk hh; clear hb hh)))
        exact ⟨⟨p, swapL ys p k hpl hk, rfl, by rw [HSL.out]; exact hpl, by rw [HSL.out]; exact HYL.out, ⟨HH3.out, HSP.out.trans HI.out.2.1, HF.out⟩, ⟨HB.out.trans ((HB2.out.mono HBZ.out).trans HB3.out)⟩⟩, by simp [intOf]; omega⟩

/-- What down leaves. -/
structure Downed (w w' : World) (base b : Nat) (A : Option Addr) (c : Nat) (xs : List Th) (n : Nat) (ys : List Th) : Prop where
  heap : HeapAt w' base b A c ys
  perm : ys.Perm xs
  len : ys.length = xs.length
  last : ys[n]? = xs[n]?
  below : Below base w w'
  keeps : KeepsH w w'
theorem Downed.step {w w' w'' : World} {base b : Nat} {A : Option Addr} {c : Nat} {xs : List Th} {n : Nat} {ys : List Th} (h : Downed w w' base b A c xs n ys) (hb : Below w'.heap.size w' w'') : Downed w w'' base b A c xs n ys :=
  ⟨h.heap.step hb, h.perm, h.len, h.last, h.below.trans (hb.mono (Nat.le_trans h.heap.low (Nat.le_of_lt h.heap.box.lt))), h.keeps.trans (KeepsH.ofBelow hb)⟩
theorem Downed.swap {w w' w'' : World} {base b : Nat} {A : Option Addr} {c : Nat} {xs : List Th} {n : Nat} {ys : List Th} (h : Downed w w' base b A c xs n ys) {k j : Nat} (hk : k < ys.length) (hj : j < ys.length) (hkn : k ≠ n) (hjn : j ≠ n) (hh : HeapAt w'' base b A c (swapL ys k j hk hj)) (hb : Below base w' w'' ∧ KeepsH w' w'') : Downed w w'' base b A c xs n (swapL ys k j hk hj) := by
  refine ⟨hh, (swapL_perm ys k j hk hj).trans h.perm, by rw [swapL_length]; exact h.len, ?_, h.below.trans hb.1, h.keeps.trans hb.2⟩
  unfold swapL
  rw [List.getElem?_set_ne hjn, List.getElem?_set_ne hkn]
  exact h.last
def HeapN (ys : List Th) (n : Nat) (hn : n ≤ ys.length) : Prop := ∀ (i : Nat) (hi : i < n), 0 < i → leT (ys[(i - 1) / 2]'(by omega)) (ys[i]'(by omega))

set_option maxHeartbeats 16000000 in
set_option maxRecDepth 100000 in
theorem down_any (w : World) (base b : Nat) (A : Option Addr) (c : Nat) (xs : List Th) (n : Nat) (h : HeapAt w base b A c xs) (hn : n ≤ xs.length) (hu : DownTo xs n 0 hn) (hl : xs.length ≤ 100000) :
    Calls Try.prog 89 #[.iface 111 (.pointer (some ⟨b, 0, none⟩)), .int .i64 0, .int .i64 n] w fun e w' => (∃ v, e = .returned v) ∧ ∃ ys, Downed w w' base b A c xs n ys ∧ ∃ hn', HeapN ys n hn' := by
  have H0 : Veil (Downed w w base b A c xs n xs) := ⟨⟨h, List.Perm.refl _, rfl, rfl, Below.refl _ _, KeepsH.refl _⟩⟩
  have HU := Veil.mk hu
  have HN := Veil.mk hn
  have HL := Veil.mk hl
  clear h hu
  go_enter Try.func89, Try.ntmps89
  go_wp2_with fail
  go_loopw [7] (fun v7 wr => ∃ (k : Nat) (ys : List Th) (hn' : n ≤ ys.length), v7 = .int .i64 k ∧ (k < n ∨ k = 0) ∧ Veil (Downed w wr base b A c xs n ys) ∧ Veil (DownTo ys n k hn')) (fun v7 _ => n - (intOf v7).toNat)
  case atStart => exact ⟨0, xs, HN.out, rfl, .inr rfl, H0, HU⟩
  case round =>
    obtain ⟨k, ys, hn', rfl, hk, HI, HD⟩ := hrel
    have hl : ys.length ≤ 100000 := by rw [HI.out.len]; exact HL.out
    have hkb : (k : Int) ≤ 100000 := by omega
    obtain ⟨j1, hj1⟩ : ∃ j1, 2 * k + 1 = j1 := ⟨_, rfl⟩
    have he1 : 2 * (k : Int) + 1 = (j1 : Int) := by omega
    by_cases hc1 : n ≤ j1
    · as_aux_lemma =>
      have d1 : decide ((n : Int) ≤ (j1 : Int)) = true := decide_eq_true (by omega)
      have d1' : decide (n ≤ j1) = true := decide_eq_true hc1
      have HF : Veil (HeapN ys n hn') := ⟨down_done hn' HD.out (fun i hi h0 hp => by omega)⟩
      clear hj1
      go_wp2
      go_ret
      exact ⟨⟨_, rfl⟩, ys, HI.out, _, HF.out⟩
    have hc1' : j1 < n := by omega
    have d1 : decide ((n : Int) ≤ (j1 : Int)) = false := decide_eq_false (by omega)
    have d1' : decide (n ≤ j1) = false := decide_eq_false hc1
    have d2 : decide ((j1 : Int) < 0) = false := decide_eq_false (by omega)
    have hkn : k < n := by omega
    have hky : k < ys.length := by omega
    have hj1y : j1 < ys.length := by omega
    obtain ⟨j2, hj2⟩ : ∃ j2, j1 + 1 = j2 := ⟨_, rfl⟩
    have he2 : (j1 : Int) + 1 = (j2 : Int) := by omega
    have hj2b : (j2 : Int) ≤ 200002 := by omega
    have hj1b : (j1 : Int) ≤ 200001 := by omega
    have hj10 : (0 : Int) ≤ (j1 : Int) := by omega
    have s0 := HI.out.heap.box.cell 0 _ rfl
    have HTAIL : Veil (∀ (j : Nat) (hj : j < n) (hjy : j < ys.length), 0 < j → (j - 1) / 2 = k → (∀ i, (hi : i < n) → 0 < i → (hp : (i - 1) / 2 = k) → leT ys[j] (ys[i]'(by omega))) →
        (ltT ys[j] ys[k] = false → HeapN ys n hn') ∧ (ltT ys[j] ys[k] = true → DownTo (swapL ys k j hky hjy) n j (by rw [swapL_length]; exact hn'))) := ⟨fun j hj hjy h0 hp hm =>
      ⟨fun hlt => down_done hn' HD.out (fun i hi hi0 hpi => leT_trans (leT_of_not hlt) (hm i hi hi0 hpi)), fun hlt => down_step hn' hkn hj ⟨h0, hp⟩ HD.out hlt hm⟩⟩
    have HCH : Veil (∀ i, i < n → 0 < i → (i - 1) / 2 = k → i = j1 ∨ i = j2) := ⟨fun i hi h0 hp => by omega⟩
    have HP1 : Veil (0 < j1 ∧ (j1 - 1) / 2 = k ∧ 0 < j2 ∧ (j2 - 1) / 2 = k) := ⟨by omega⟩
    have HLE := Veil.mk (fun (W : World) (hW : HeapAt W base b A c ys) (i j : Nat) (hi : i < ys.length) (hj : j < ys.length) => less_any W base b A c ys i j hW hi hj hl)
    have HSW := Veil.mk (fun (W : World) (hW : HeapAt W base b A c ys) (i j : Nat) (hi : i < ys.length) (hj : j < ys.length) => swap_any W base b A c ys i j hW hi hj hl)
    by_cases hc2 : j2 < n
    · have d3 : decide ((j2 : Int) < (n : Int)) = true := decide_eq_true (by omega)
      have d3' : decide (j2 < n) = true := decide_eq_true hc2
      have hj2y : j2 < ys.length := by omega
      have hm := m_less wr b _ s0
      have HL0 := Veil.mk (HLE.out wr HI.out.heap j2 j1 hj2y hj1y)
      cases hlc : ltT ys[j2] ys[j1] with
      | true =>
        as_aux_lemma =>
        have HT := Veil.mk (HTAIL.out j2 hc2 hj2y HP1.out.2.2.1 HP1.out.2.2.2 (fun i hi h0 hp => by
          rcases HCH.out i hi h0 hp with rfl | rfl
          · exact leT_of_lt hlc
          · exact leT_refl _))
        rw [hlc] at HL0
        clear hlc hj1 hj2
        cases hlt : ltT ys[j2] ys[k] with
        | false =>
          have HF := Veil.mk (HT.out.1 hlt)
          have HLT := Veil.mk hlt
          clear hlt
          go_wp2_with (first | (go_at_call 139; with_reducible refine HL0.out.mono ?_; go_must (rintro ed w2 ⟨rfl, hb⟩; have HI2 := Veil.mk (HI.out.step hb); have s2 := HI2.out.heap.box.cell 0 _ rfl; have hm2 := m_less w2 b _ s2; have HL1 := Veil.mk (HLE.out w2 HI2.out.heap j2 k hj2y hky); rw [HLT.out] at HL1; clear hb)) | (go_at_call 139; with_reducible refine HL1.out.mono ?_; go_must (rintro ed w3 ⟨rfl, hb⟩; have HI3 := Veil.mk (HI2.out.step hb); clear hb)))
          go_ret
          exact ⟨⟨_, rfl⟩, ys, HI3.out, _, HF.out⟩
        | true =>
          have HF := Veil.mk (HT.out.2 hlt)
          have HLT := Veil.mk hlt
          clear hlt
          go_wp2_with (first | (go_at_call 139; with_reducible refine HL0.out.mono ?_; go_must (rintro ed w2 ⟨rfl, hb⟩; have HI2 := Veil.mk (HI.out.step hb); have s2 := HI2.out.heap.box.cell 0 _ rfl; have hm2 := m_less w2 b _ s2; have HL1 := Veil.mk (HLE.out w2 HI2.out.heap j2 k hj2y hky); rw [HLT.out] at HL1; clear hb)) | (go_at_call 139; with_reducible refine HL1.out.mono ?_; go_must (rintro ed w3 ⟨rfl, hb⟩; have HI3 := Veil.mk (HI2.out.step hb); have s3 := HI3.out.heap.box.cell 0 _ rfl; have hm3 := m_swap w3 b _ s3; clear hb)) | (go_at_call 142; go_must (refine (HSW.out _ HI3.out.heap k j2 hky hj2y).mono ?_; rintro ed w4 ⟨⟨v, rfl⟩, hh, hb⟩; have HI4 := Veil.mk (HI3.out.swap hky hj2y (by omega) (by omega) hh hb); clear hb hh)))
          exact ⟨⟨j2, _, _, rfl, .inl hc2, HI4, HF⟩, by simp [intOf]; omega⟩
      | false =>
        as_aux_lemma =>
        have HT := Veil.mk (HTAIL.out j1 hc1' hj1y HP1.out.1 HP1.out.2.1 (fun i hi h0 hp => by
          rcases HCH.out i hi h0 hp with rfl | rfl
          · exact leT_refl _
          · exact leT_of_not hlc))
        rw [hlc] at HL0
        clear hlc hj1 hj2
        cases hlt : ltT ys[j1] ys[k] with
        | false =>
          have HF := Veil.mk (HT.out.1 hlt)
          have HLT := Veil.mk hlt
          clear hlt
          go_wp2_with (first | (go_at_call 139; with_reducible refine HL0.out.mono ?_; go_must (rintro ed w2 ⟨rfl, hb⟩; have HI2 := Veil.mk (HI.out.step hb); have s2 := HI2.out.heap.box.cell 0 _ rfl; have hm2 := m_less w2 b _ s2; have HL1 := Veil.mk (HLE.out w2 HI2.out.heap j1 k hj1y hky); rw [HLT.out] at HL1; clear hb)) | (go_at_call 139; with_reducible refine HL1.out.mono ?_; go_must (rintro ed w3 ⟨rfl, hb⟩; have HI3 := Veil.mk (HI2.out.step hb); clear hb)))
          go_ret
          exact ⟨⟨_, rfl⟩, ys, HI3.out, _, HF.out⟩
        | true =>
          have HF := Veil.mk (HT.out.2 hlt)
          have HLT := Veil.mk hlt
          clear hlt
          go_wp2_with (first | (go_at_call 139; with_reducible refine HL0.out.mono ?_; go_must (rintro ed w2 ⟨rfl, hb⟩; have HI2 := Veil.mk (HI.out.step hb); have s2 := HI2.out.heap.box.cell 0 _ rfl; have hm2 := m_less w2 b _ s2; have HL1 := Veil.mk (HLE.out w2 HI2.out.heap j1 k hj1y hky); rw [HLT.out] at HL1; clear hb)) | (go_at_call 139; with_reducible refine HL1.out.mono ?_; go_must (rintro ed w3 ⟨rfl, hb⟩; have HI3 := Veil.mk (HI2.out.step hb); have s3 := HI3.out.heap.box.cell 0 _ rfl; have hm3 := m_swap w3 b _ s3; clear hb)) | (go_at_call 142; go_must (refine (HSW.out _ HI3.out.heap k j1 hky hj1y).mono ?_; rintro ed w4 ⟨⟨v, rfl⟩, hh, hb⟩; have HI4 := Veil.mk (HI3.out.swap hky hj1y (by omega) (by omega) hh hb); clear hb hh)))
          exact ⟨⟨j1, _, _, rfl, .inl hc1', HI4, HF⟩, by simp [intOf]; omega⟩
    · as_aux_lemma =>
      have d3 : decide ((j2 : Int) < (n : Int)) = false := decide_eq_false (by omega)
      have d3' : decide (j2 < n) = false := decide_eq_false hc2
      have hm := m_less wr b _ s0
      have HT := Veil.mk (HTAIL.out j1 hc1' hj1y HP1.out.1 HP1.out.2.1 (fun i hi h0 hp => by
        rcases HCH.out i hi h0 hp with rfl | rfl
        · exact leT_refl _
        · omega))
      clear hj1 hj2
      cases hlt : ltT ys[j1] ys[k] with
      | false =>
        have HF := Veil.mk (HT.out.1 hlt)
        have HL1 := Veil.mk (HLE.out wr HI.out.heap j1 k hj1y hky)
        rw [hlt] at HL1
        clear hlt
        go_wp2_with (first | (go_at_call 139; with_reducible refine HL1.out.mono ?_; go_must (rintro ed w2 ⟨rfl, hb⟩; have HB2 := Veil.mk hb; clear hb)))
        go_ret
        exact ⟨⟨_, rfl⟩, ys, HI.out.step HB2.out, _, HF.out⟩
      | true =>
        have HF := Veil.mk (HT.out.2 hlt)
        have HL1 := Veil.mk (HLE.out wr HI.out.heap j1 k hj1y hky)
        rw [hlt] at HL1
        clear hlt
        go_wp2_with (first | (go_at_call 139; with_reducible refine HL1.out.mono ?_; go_must (rintro ed w2 ⟨rfl, hb⟩; have HI2 := Veil.mk (HI.out.step hb); have s2 := HI2.out.heap.box.cell 0 _ rfl; have hm2 := m_swap w2 b _ s2; clear hb)) | (go_at_call 142; go_must (refine (HSW.out _ HI2.out.heap k j1 hky hj1y).mono ?_; rintro ed w3 ⟨⟨v, rfl⟩, hh, hb⟩; have HI3 := Veil.mk (HI2.out.swap hky hj1y (by omega) (by omega) hh hb); clear hb hh)))
        exact ⟨⟨j1, _, _, rfl, .inl hc1', HI3, HF⟩, by simp [intOf]; omega⟩
end Go.Proofs.Ytjmnbbflahacoaa.Opq
