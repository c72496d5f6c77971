/- ModelReads's walk: true for all values and any try. No condition. -/
import Derived.Test.YtjmnbbflahacoaaWalkFits
import Derived.Deep.DeepCutAuto
namespace Go.Proofs.Ytjmnbbflahacoaa.Model
open Go.RowKit Go.Proofs.Ytjmnbbflahacoaa.Mem Go.Proofs.Ytjmnbbflahacoaa.Hist Go.Proofs.Ytjmnbbflahacoaa.PHistTells Go.Proofs.YtjmnbbflahacoaaW.PrintWords
set_option linter.unusedVariables false
set_option linter.unusedSimpArgs false

/-- What the two answers and what was read bear on each other. -/
structure ReadsLaw (R fx fy : Bool) (same : Prop) : Prop where
  no : R = false → fx = fy
  yes : R = true → fx = true → fy = true → same
theorem reads_law (vs : List Int) (l : List Acc) (o : Nat) (ho : o < vs.length) (nv : Int) : ReadsLaw (l.any (reads1 o)) (fitsM vs l) (fitsM (vs.set o nv) l) (nv = vs[o]) := by
  refine ⟨fun h => (fits_set vs l o nv h).symm, fun h h1 h2 => ?_⟩
  obtain ⟨a, ha, hr, hv⟩ := fits_read vs l o ho h h1
  -- the same access fits in both
  obtain ⟨i, hi, rfl⟩ := List.getElem_of_mem ha
  have key : ∀ us : List Int, o < us.length → fitsM us l = true → us[o]? = some l[i].f3 := fun us hu hf => by
    unfold fitsM fitsUpTo at hf
    rw [List.all_eq_true] at hf
    have := hf i (by simpa using hi)
    rw [List.getElem?_eq_getElem hi] at this
    simp only at this
    unfold reads1 at hr
    simp only [Bool.and_eq_true, Bool.not_eq_true', beq_iff_eq] at hr
    unfold okAt at this
    rw [if_pos (by simp [hr.1.1.1, hr.1.2])] at this
    cases hw : ownOf (l.take i) l[i].f2 with
    | some v => rw [hw, hr.2] at this; simp at this
    | none =>
      rw [hw, hr.2, hr.1.1.2] at this
      unfold valAt at this
      rw [if_pos (by omega)] at this
      simpa using this
  have h3 := key vs ho h1
  have h4 := key (vs.set o nv) (by simpa using ho) h2
  rw [List.getElem?_eq_getElem ho] at h3
  rw [List.getElem?_set_self ho] at h4
  injection h3 with h3
  injection h4 with h4
  rw [h3, h4]

set_option maxHeartbeats 16000000 in
set_option maxRecDepth 100000 in
theorem modelReads_any (w : World) (A : Option Addr) (c : Nat) (vs : List Int) (t : Tr) (A8 : Option Addr) (c8 : Nat) (k nv : Int) (hC : kI.C w A vs.length vs) (hA : kAcc.C w A8 t.f8.length t.f8) (hok : ∀ a ∈ t.f8, (Lit.int .i64 a.f2).wf = true) (hk0 : 0 ≤ k) (hk1 : k ≤ 255) :
    Calls Try.prog 12 #[.slice A vs.length c, .agg #[.int .i64 t.f0, .int .i64 t.f1, .int .i64 t.f2, .int .i64 t.f3, .int .i64 t.f4, .int .i64 t.f5, .int .i64 t.f6, .bool t.f7, .slice A8 t.f8.length c8], .int .u8 k, .int .i64 nv] w
      fun e w' => e = .returned (.bool true) ∧ Below w.heap.size w w' := by
  have HC := Veil.mk hC
  have HA := Veil.mk hA
  have HO := Veil.mk hok
  have HS0 := Veil.mk (trP_new w 29 t A8 t.f8.length c8)
  have HB0 := Veil.mk ((Below.refl w.heap.size w).alloc (Nat.le_refl _) (.cells #[.int .i64 t.f0, .int .i64 t.f1, .int .i64 t.f2, .int .i64 t.f3, .int .i64 t.f4, .int .i64 t.f5, .int .i64 t.f6, .bool t.f7, .slice A8 t.f8.length c8] 29))
  clear hC hA hok
  by_cases h1 : vs.length < 1
  · have g0 : decide ((vs.length : Int) < (1 : Int)) = true := decide_eq_true (by omega)
    clear h1
    go_enter Try.func12, Try.ntmps12
    go_wp2_with (first | (go_at_call 29; refine (alive18_any _).mono ?_; rintro ed w1 ⟨rfl, hb⟩; have HX := Veil.mk (below_of HB0.out hb); clear hb))
    go_ret
    exact ⟨rfl, HX.out⟩
  have g0 : decide ((vs.length : Int) < (1 : Int)) = false := decide_eq_false (by omega)
  by_cases h20 : 20 < vs.length
  · have g1 : decide ((20 : Int) < (vs.length : Int)) = true := decide_eq_true (by omega)
    clear h20 h1
    go_enter Try.func12, Try.ntmps12
    go_wp2_with (first | (go_at_call 29; refine (alive18_any _).mono ?_; rintro ed w1 ⟨rfl, hb⟩; have HX := Veil.mk (below_of HB0.out hb); clear hb))
    go_ret
    exact ⟨rfl, HX.out⟩
  have g1 : decide ((20 : Int) < (vs.length : Int)) = false := decide_eq_false (by omega)
  by_cases h50 : 50 < t.f8.length
  · have g2 : decide ((50 : Int) < (t.f8.length : Int)) = true := decide_eq_true (by omega)
    clear h20 h50 h1
    go_enter Try.func12, Try.ntmps12
    go_wp2_with (first | (go_at_call 29; refine (alive18_any _).mono ?_; rintro ed w1 ⟨rfl, hb⟩; have HX := Veil.mk (below_of HB0.out hb); have HT := Veil.mk (trP_below HS0.out hb); have hcc := HT.out; unfold trP at hcc; obtain ⟨p0, p1, p2, p3, p4, p5, p6, p7, p8⟩ := hcc; clear hb))
    go_ret
    exact ⟨rfl, HX.out⟩
  have g2 : decide ((50 : Int) < (t.f8.length : Int)) = false := decide_eq_false (by omega)
  have HL : Veil (vs.length ≤ 1000000 ∧ t.f8.length ≤ 1000000) := ⟨by omega⟩
  obtain ⟨j, hj⟩ : ∃ j : Nat, k.tmod (vs.length : Int) = (j : Int) := ⟨(k.tmod (vs.length : Int)).toNat, by rw [Int.toNat_of_nonneg (Int.tmod_nonneg _ hk0)]⟩
  have hjl : j < vs.length := by
    have := Int.tmod_lt_of_pos k (show (0 : Int) < (vs.length : Int) by omega)
    omega
  have hv20 : vs.length ≤ 20 := by omega
  have hv1 : 1 ≤ vs.length := by omega
  clear h20 h50 h1
  have HRL := Veil.mk (reads_law vs t.f8 j hjl nv)
  go_enter Try.func12, Try.ntmps12
  go_wp2_with (first | (go_at_call 29; refine (alive18_any _).mono ?_; rintro ed w1 ⟨rfl, hb⟩; have HX := Veil.mk (below_of HB0.out hb); have HT := Veil.mk (trP_below HS0.out hb); have hcc := HT.out; unfold trP at hcc; obtain ⟨p0, p1, p2, p3, p4, p5, p6, p7, p8⟩ := hcc; clear hb))
  clear p0 p1 p2 p3 p4 p5 p6 p7 p8
  go_loopw [10, 11] (fun v10 v11 wr => ∃ i : Nat, i ≤ t.f8.length ∧ v11 = .int .i64 i ∧ v10 = .bool ((t.f8.take i).any (reads1 j)) ∧ Veil (Below w1.heap.size w1 wr)) (fun _ v11 _ => t.f8.length - (intOf v11).toNat)
  case atStart => exact ⟨0, Nat.zero_le _, rfl, rfl, ⟨Below.refl _ _⟩⟩
  case round =>
    obtain ⟨i, hi, rfl, rfl, HB⟩ := hrel
    have HXW := Veil.mk (below_of HX.out HB.out)
    have HTW := Veil.mk (trP_below HT.out HB.out)
    have p8 := HTW.out.2.2.2.2.2.2.2.2
    have htl := HL.out.2
    have hvl := HL.out.1
    by_cases hil : i < t.f8.length
    · as_aux_lemma =>
      have d1 : decide ((i : Int) < (t.f8.length : Int)) = true := decide_eq_true (by omega)
      have d2 : (i : Int) < (t.f8.length : Int) := by omega
      obtain ⟨ad, rfl, h0, h1, h2, h3, h4, h5⟩ := acc_at (Kd.C_below HA.out HXW.out) i hil
      have HN : Veil ((t.f8.take (i + 1)).any (reads1 j) = ((t.f8.take i).any (reads1 j) || reads1 j t.f8[i])) := ⟨by rw [List.take_succ_eq_append_getElem hil, List.any_append]; simp⟩
      obtain ⟨a, ha⟩ : ∃ a, t.f8[i] = a := ⟨_, rfl⟩
      rw [ha] at h0 h1 h2 h3 h4 h5 HN
      clear ha
      have HBN := Veil.mk (HB.out.alloc HB.out.size (.cells #[.int .i64 a.f0, .int .i64 a.f1, .int .i64 a.f2, .int .i64 a.f3, .bool a.f4, .bool a.f5] 33))
      obtain ⟨r, hr⟩ : ∃ r, (t.f8.take i).any (reads1 j) = r := ⟨_, rfl⟩
      rw [hr] at HN ⊢
      clear hr
      have HM : Veil (∀ b, reads1 j a = b → (t.f8.take (i + 1)).any (reads1 j) = (r || b)) := ⟨fun b h => by rw [HN.out, h]⟩
      clear HN
      obtain ⟨a0, a1, a2, a3, a4, a5⟩ := a
      dsimp only at h0 h1 h2 h3 h4 h5 HBN HM ⊢
      cases r with
      | true =>
        have HQ : Veil ((t.f8.take (i + 1)).any (reads1 j) = true) := ⟨by rw [HM.out _ rfl]; rfl⟩
        go_wp2
        exact ⟨⟨i + 1, by omega, by go_num, by rw [HQ.out], HBN⟩, by simp [intOf]; omega⟩
      | false =>
        cases m1 : (a1 == 2) with
        | false =>
          have HQ : Veil ((t.f8.take (i + 1)).any (reads1 j) = false) := ⟨by rw [HM.out false (by unfold reads1; rw [m1]; rfl)]; rfl⟩
          go_wp2
          exact ⟨⟨i + 1, by omega, by go_num, by rw [HQ.out], HBN⟩, by simp [intOf]; omega⟩
        | true =>
          cases m2 : (a2 == (j : Int)) with
          | false =>
            have HQ : Veil ((t.f8.take (i + 1)).any (reads1 j) = false) := ⟨by rw [HM.out false (by unfold reads1; rw [m1, m2]; rfl)]; rfl⟩
            go_wp2
            exact ⟨⟨i + 1, by omega, by go_num, by rw [HQ.out], HBN⟩, by simp [intOf]; omega⟩
          | true =>
            cases a5 with
            | true =>
              have HQ : Veil ((t.f8.take (i + 1)).any (reads1 j) = false) := ⟨by rw [HM.out false (by unfold reads1; simp)]; rfl⟩
              go_wp2
              exact ⟨⟨i + 1, by omega, by go_num, by rw [HQ.out], HBN⟩, by simp [intOf]; omega⟩
            | false =>
              cases a4 with
              | true =>
                have HQ : Veil ((t.f8.take (i + 1)).any (reads1 j) = false) := ⟨by rw [HM.out false (by unfold reads1; simp)]; rfl⟩
                go_wp2
                exact ⟨⟨i + 1, by omega, by go_num, by rw [HQ.out], HBN⟩, by simp [intOf]; omega⟩
              | false =>
                have HQ : Veil ((t.f8.take (i + 1)).any (reads1 j) = true) := ⟨by rw [HM.out true (by unfold reads1; rw [m1, m2]; rfl)]; rfl⟩
                go_wp2
                exact ⟨⟨i + 1, by omega, by go_num, by rw [HQ.out], HBN⟩, by simp [intOf]; omega⟩
    · as_aux_lemma =>
      have d1 : decide ((i : Int) < (t.f8.length : Int)) = false := decide_eq_false (by omega)
      have hii : i = t.f8.length := by omega
      subst hii
      rw [List.take_length]
      obtain ⟨R, hR⟩ : ∃ R, t.f8.any (reads1 j) = R := ⟨_, rfl⟩
      rw [hR] at HRL ⊢
      clear hR
      have HRI : Veil (∀ W : World, kI.C W A vs.length vs → ∃ av x, A = some av ∧ W.cell? (av.add j) = some (.int .i64 x) ∧ x = vs[j]) := ⟨fun W hW => by
        obtain ⟨av, rfl, x0⟩ := int_at hW j hjl
        exact ⟨av, _, rfl, x0, rfl⟩⟩
      obtain ⟨xj, hxj⟩ : ∃ x, vs[j] = x := ⟨_, rfl⟩
      rw [hxj] at HRL
      have HXJ := Veil.mk hxj
      clear hxj
      obtain ⟨fx, hfx⟩ : ∃ f, fitsM vs t.f8 = f := ⟨_, rfl⟩
      obtain ⟨fy, hfy⟩ : ∃ f, fitsM (vs.set j nv) t.f8 = f := ⟨_, rfl⟩
      rw [hfx, hfy] at HRL
      have HFX := Veil.mk hfx
      have HFY := Veil.mk hfy
      clear hfx hfy
      have hj2 : (j : Int) < (vs.length : Int) := by omega
      have HLS := Veil.mk (show (vs.set j nv).length = vs.length by simp)
      go_wp2_with (first | ((with_reducible refine gate_dst (N := 71) rfl ?_); refine Kd.R_lit (Kd.int .i64) _ 2 ?hg (N := 71) ?hd (xs := ([] : List Int)) (inner := []) (ok := fun _ => True) (okp := fun _ => True) ?hr ?hp (fun _ hk => hk) trivial (Below.refl _ _) (Nat.le_refl _) (by simp) ?_; (case hd => rfl); (case hg => rfl); (case hr => first | (go_simp; done) | (go_simp; rfl)); (case hp => exact (Reps.none _ _)); intro v5 w4 ho5 hb hg_ hnew_; clear hg_ hnew_; have HO5 := Veil.mk ho5; have HB4 := Veil.mk hb; clear ho5 hb) | ((with_reducible refine gate_builtin (b := .append) (xs := #[.tmp 71, .tmp 72]) rfl ?_); at_builtin; refine Kd.R_append_rows (Kd.int .i64) (w0 := wr) wr.heap.size rfl (.tmp 71) (.tmp 72) 47 2 (.int .i64 0) 8 rfl Try.underlying47 infoI rfl (by decide) (by omega) v5 [] vs _ _ _ (fun _ => True) (fun _ => False) rfl rfl ?aO ?aR (fun _ _ h => h) (fun _ h => h.elim) ?aF ?aB ?aS ?aL ?_; (case aR => exact Kd.C_below HC.out (HXW.out.trans (HB4.out.mono HXW.out.size))); (case aB => exact HB4.out); (case aF => exact (fun _ _ => trivial)); (case aO => exact HO5.out); (case aS => exact HB4.out.size); (case aL => have := HL.out.1; simp; omega); intro v7 w6 ho hb hg hat; have ho' : kI.R 2 w6 wr.heap.size (fun _ => True) v7 vs := (by simpa using ho); obtain ⟨g, cap, rfl, hgb, _, _⟩ := Kd.R_form ho' (by omega); obtain ⟨z0, f0⟩ := int_cell ho' j (by omega); have HO7 := Veil.mk (R_set_int ho' (j : Int) nv rfl); rw [Int.toNat_natCast] at HO7; have HB6 := Veil.mk (hb.setCell (p := ⟨g, j, none⟩) hgb (.int .i64 nv)); clear ho ho' hb hg hat hgb))
      have HX7 := Veil.mk (below_of HXW.out HB6.out)
      have HT7 := Veil.mk (trP_below HTW.out HB6.out)
      have HC7 := Veil.mk (Kd.R_reads' HO7.out).2.2
      have hls := HLS.out
      generalize w6.setCell ⟨g, j, none⟩ (.int .i64 nv) = w7 at *
      clear p8 z0 f0 HO7 HB6
      rw [hls] at HC7
      refine wp_region_X (fun w' => trP w' w.heap.size t (.slice A8 t.f8.length c8)) [] (by kernel_rfl) ?_
      have hS0 : trP w7.drew w.heap.size t (.slice A8 t.f8.length c8) := trP_below HT7.out (Below.refl _ _).drew
      unfold trP at hS0 ⊢
      refine wpAnyX_take (i := 0) (v := ?_) rfl (by kernel_rfl) (by kernel_rfl) (by kernel_rfl) (by kernel_rfl) (fun _ _ _ h => h) (Or.inl ⟨by rfl, ?_⟩) (by assumption) ?_
      rotate_left 1
      · intro w hSw; (try dsimp only at hSw); go_split_ands; (first | (go_simp; done) | (go_simp; with_reducible rfl))
      try simp only [Act.put, List.setIfInBounds_toArray, List.set_cons_zero, List.set_cons_succ]
      refine wpAnyX_take (i := 1) (v := ?_) rfl (by kernel_rfl) (by kernel_rfl) (by kernel_rfl) (by kernel_rfl) (fun _ _ _ h => h) (Or.inl ⟨by rfl, ?_⟩) (by assumption) ?_
      rotate_left 1
      · intro w hSw; (try dsimp only at hSw); go_split_ands; (first | (go_simp; done) | (go_simp; with_reducible rfl))
      try simp only [Act.put, List.setIfInBounds_toArray, List.set_cons_zero, List.set_cons_succ]
      refine wpAnyX_take (i := 3) (v := ?_) rfl (by kernel_rfl) (by kernel_rfl) (by kernel_rfl) (by kernel_rfl) (fun _ _ _ h => h) (Or.inl ⟨by rfl, ?_⟩) (by assumption) ?_
      rotate_left 1
      · intro w hSw; (try dsimp only at hSw); go_split_ands; (first | (go_simp; done) | (go_simp; with_reducible rfl))
      try simp only [Act.put, List.setIfInBounds_toArray, List.set_cons_zero, List.set_cons_succ]
      refine wpAnyX_take (i := 4) (v := ?_) rfl (by kernel_rfl) (by kernel_rfl) (by kernel_rfl) (by kernel_rfl) (fun _ _ _ h => h) (Or.inl ⟨by rfl, ?_⟩) (by assumption) ?_
      rotate_left 1
      · intro w hSw; (try dsimp only at hSw); go_split_ands; (first | (go_simp; done) | (go_simp; with_reducible rfl))
      try simp only [Act.put, List.setIfInBounds_toArray, List.set_cons_zero, List.set_cons_succ]
      clear hS0
      refine wpAnyX_one (i := 2) (by kernel_rfl) rfl (fun K hK => ?_)
      go_simp
      refine (fits_any _ A c vs t A8 c8 (Kd.C_below HC.out HX7.out.drew) HL.out.1 (Kd.C_below HA.out HX7.out.drew) HL.out.2 HO.out).mono ?_
      rintro e1 w8 ⟨rfl, hb8⟩
      rw [HFX.out]
      have HB8 := Veil.mk (((Below.refl w7.heap.size w7).drew).trans hb8)
      have HX8 := Veil.mk (below_of HX7.out HB8.out)
      have HT8 := Veil.mk (trP_below HT7.out HB8.out)
      have HC8 := Veil.mk (Kd.C_below HC7.out HB8.out)
      clear hb8
      dsimp only
      refine hK.out _ _ (fun _ => HT8.out) ?_
      clear hK K
      try simp only [Act.put, List.setIfInBounds_toArray, List.set_cons_zero, List.set_cons_succ]
      refine wpAnyX_one (i := 5) (by kernel_rfl) rfl (fun K hK => ?_)
      go_simp
      have hfy := fits_any w8 (some ⟨g, 0, none⟩) cap (vs.set j nv) t A8 c8 (by rw [hls]; exact HC8.out) (by rw [hls]; exact HL.out.1) (Kd.C_below HA.out HX8.out) HL.out.2 HO.out
      rw [hls] at hfy
      refine hfy.mono ?_
      rintro e1 w9 ⟨rfl, hb9⟩
      rw [HFY.out]
      have HX9 := Veil.mk (below_of HX8.out hb9)
      have HT9 := Veil.mk (trP_below HT8.out hb9)
      clear hb9 hfy
      dsimp only
      refine hK.out _ _ (fun _ => HT9.out) ?_
      clear hK K
      try simp only [Act.put, List.setIfInBounds_toArray, List.set_cons_zero, List.set_cons_succ]
      refine wpAnyX_one (i := 6) (by kernel_rfl) rfl (fun K hK => ?_)
      go_simp
      refine hK.out _ _ (fun _ => HT9.out) ?_
      clear hK K
      try simp only [Act.put, List.setIfInBounds_toArray, List.set_cons_zero, List.set_cons_succ]
      refine wpAnyX_one (i := 7) (by kernel_rfl) rfl (fun K hK => ?_)
      go_simp
      refine hK.out _ _ (fun _ => HT9.out) ?_
      clear hK K
      refine wpAnyX_done (by kernel_rfl) ?_ _
      cases R with
      | false =>
        have hno := HRL.out.no rfl
        subst hno
        cases fx with
        | true =>
          go_wp2
          go_ret
          exact ⟨rfl, HX9.out⟩
        | false =>
          go_wp2
          go_ret
          exact ⟨rfl, HX9.out⟩
      | true =>
        obtain ⟨av, x, rfl, x0, hx⟩ := HRI.out w9 (Kd.C_below HC.out HX9.out)
        rw [HXJ.out] at hx
        subst hx
        by_cases hsame : nv = x
        · have m0 : (nv == x) = true := beq_iff_eq.2 hsame
          clear hsame
          go_wp2
          go_ret
          exact ⟨rfl, HX9.out⟩
        · have m0 : (nv == x) = false := beq_eq_false_iff_ne.2 hsame
          cases fx with
          | false =>
            clear hsame
            go_wp2
            go_ret
            exact ⟨rfl, HX9.out⟩
          | true =>
            cases fy with
            | false =>
              clear hsame
              go_wp2
              go_ret
              exact ⟨rfl, HX9.out⟩
            | true => exact absurd (HRL.out.yes rfl rfl rfl) hsame
end Go.Proofs.Ytjmnbbflahacoaa.Model
