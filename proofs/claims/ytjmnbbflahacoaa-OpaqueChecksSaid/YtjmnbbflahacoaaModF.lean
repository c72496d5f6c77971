/- ModelApart, plain: tries that write no object both write are applied in either order alike, and one twice as once. No condition. -/
import Derived.Test.YtjmnbbflahacoaaModA
namespace Go.Proofs.Ytjmnbbflahacoaa.Model
open Go.RowKit Go.Proofs.Ytjmnbbflahacoaa.Mem Go.Proofs.Ytjmnbbflahacoaa.Hist Go.Proofs.Ytjmnbbflahacoaa.PHistTells Go.Proofs.YtjmnbbflahacoaaW.PrintWords
set_option linter.unusedVariables false
set_option linter.unusedSimpArgs false

/-- What an access makes of the value of the object o. -/
def one1 (o : Nat) (d : Int) (a : Acc) : Int := if a.f1 = 3 ∧ a.f2 = (o : Int) then a.f3 else d
def lastW (l : List Acc) (o : Nat) (d : Int) : Int := l.foldl (one1 o) d
theorem put1_get (vs : List Int) (a : Acc) (o : Nat) : (put1 vs a)[o]? = (vs[o]?).map (fun d => one1 o d a) := by
  unfold put1 one1
  by_cases h : a.f1 = 3 ∧ 0 ≤ a.f2 ∧ a.f2 < (vs.length : Int)
  · rw [if_pos h]
    by_cases ho : a.f2.toNat = o
    · subst ho
      rw [List.getElem?_set_self (by omega), List.getElem?_eq_getElem (show a.f2.toNat < vs.length by omega)]
      simp only [Option.map_some]
      rw [if_pos ⟨h.1, by omega⟩]
    · rw [List.getElem?_set_ne ho]
      cases hv : vs[o]? with
      | none => rfl
      | some d =>
        simp only [Option.map_some]
        rw [if_neg (fun hh => ho (by omega))]
  · rw [if_neg h]
    cases hv : vs[o]? with
    | none => rfl
    | some d =>
      simp only [Option.map_some]
      have hlt := (List.getElem?_eq_some_iff.1 hv).1
      rw [if_neg (fun hh => h ⟨hh.1, by omega, by omega⟩)]
theorem applyM_get (l : List Acc) : ∀ (vs : List Int) (o : Nat), (applyM vs l)[o]? = (vs[o]?).map (lastW l o) := by
  induction l with
  | nil => intro vs o; unfold applyM lastW; simp
  | cons a l ih =>
    intro vs o
    have h1 : applyM vs (a :: l) = applyM (put1 vs a) l := rfl
    rw [h1, ih, put1_get]
    cases vs[o]? with
    | none => rfl
    | some d => rfl
end Go.Proofs.Ytjmnbbflahacoaa.Model
/- model: Fits: whether a try read what it should. No condition. -/
namespace Go.Proofs.Ytjmnbbflahacoaa.Model
open Go.RowKit Go.ChangeMaps Go.Maps Go.Proofs.Ytjmnbbflahacoaa.Mem Go.Proofs.Ytjmnbbflahacoaa.Hist Go.Proofs.Ytjmnbbflahacoaa.PHistTells Go.Proofs.YtjmnbbflahacoaaW.PrintWords
set_option linter.unusedVariables false
set_option linter.unusedSimpArgs false

/-- What was written last to an object. -/
def ownOf (pre : List Acc) (o : Int) : Option Int := pre.foldl (fun d a => if a.f1 = 3 ∧ a.f2 = o then some a.f3 else d) none
theorem ownOf_snoc (pre : List Acc) (a : Acc) (o : Int) : ownOf (pre ++ [a]) o = if a.f1 = 3 ∧ a.f2 = o then some a.f3 else ownOf pre o := by
  unfold ownOf
  rw [List.foldl_append]
  rfl
/-- The value of an object. -/
def valAt (vs : List Int) (o : Int) : Option Int := if 0 ≤ o then vs[o.toNat]? else none
/-- Is a reading, behind pre, what it should be? -/
def okAt (vs : List Int) (pre : List Acc) (a : Acc) : Bool :=
  if a.f1 == 2 && !a.f5 then (match ownOf pre a.f2 with
    | some v => a.f4 && v == a.f3
    | none => !a.f4 && valAt vs a.f2 == some a.f3) else true
theorem okAt_rel (vs : List Int) (pre : List Acc) (a0 a1 a2 a3 : Int) (a4 : Bool) : okAt vs pre ⟨a0, a1, a2, a3, a4, true⟩ = true := by unfold okAt; simp
theorem okAt_other (vs : List Int) (pre : List Acc) (a0 a1 a2 a3 : Int) (a4 a5 : Bool) (h : a1 ≠ 2) : okAt vs pre ⟨a0, a1, a2, a3, a4, a5⟩ = true := by unfold okAt; simp [h]
theorem okAt_own (vs : List Int) (pre : List Acc) (a0 a1 a2 a3 : Int) (a4 : Bool) (h : a1 = 2) {v : Int} (ho : ownOf pre a2 = some v) : okAt vs pre ⟨a0, a1, a2, a3, a4, false⟩ = (a4 && v == a3) := by unfold okAt; simp [h, ho]
theorem okAt_not (vs : List Int) (pre : List Acc) (a0 a1 a2 a3 : Int) (a4 : Bool) (h : a1 = 2) (ho : ownOf pre a2 = none) : okAt vs pre ⟨a0, a1, a2, a3, a4, false⟩ = (!a4 && valAt vs a2 == some a3) := by unfold okAt; simp [h, ho]
def fitsUpTo (vs : List Int) (l : List Acc) (k : Nat) : Bool := (List.range k).all (fun i : Nat => match l[i]? with
  | some a => okAt vs (l.take i) a
  | none => true)
def fitsM (vs : List Int) (l : List Acc) : Bool := fitsUpTo vs l l.length
theorem fitsUpTo_next (vs : List Int) (l : List Acc) {k : Nat} (h : k < l.length) : fitsUpTo vs l (k + 1) = (fitsUpTo vs l k && okAt vs (l.take k) l[k]) := by
  unfold fitsUpTo
  rw [List.range_succ, List.all_append]
  simp [List.getElem?_eq_getElem h]
theorem fits_no (vs : List Int) (l : List Acc) {k : Nat} (h : k < l.length) (hn : okAt vs (l.take k) l[k] = false) : fitsM vs l = false := by
  unfold fitsM fitsUpTo
  rw [List.all_eq_false]
  exact ⟨k, by simpa using h, by rw [List.getElem?_eq_getElem h]; simp [hn]⟩

/-- What the map says. -/
def ownV (pre : List Acc) (v : Value) : Option Value := (key1 v).bind fun o => (ownOf pre o).map (fun x => .int .i64 x)
theorem ownV_at (pre : List Acc) (o : Int) : ownV pre (.int .i64 o) = (ownOf pre o).map (fun x => .int .i64 x) := rfl
theorem ownV_put (pre : List Acc) (a : Acc) (h : a.f1 = 3) (v : Value) : ownV (pre ++ [a]) v = put (ownV pre) (.int .i64 a.f2) (.int .i64 a.f3) v := by
  by_cases hv : v = .int .i64 a.f2
  · subst hv
    rw [put_same, ownV_at, ownOf_snoc, if_pos ⟨h, rfl⟩]
    rfl
  · rw [put_other _ _ hv]
    unfold ownV
    cases hk : key1 v with
    | none => rfl
    | some o =>
      have ho := key1_of hk
      simp only [Option.bind_some]
      rw [ownOf_snoc, if_neg (fun hh => hv (by rw [ho, hh.2]))]
theorem ownV_keep (pre : List Acc) (a : Acc) (h : a.f1 ≠ 3) (v : Value) : ownV (pre ++ [a]) v = ownV pre v := by
  unfold ownV
  cases key1 v with
  | none => rfl
  | some o =>
    simp only [Option.bind_some]
    rw [ownOf_snoc, if_neg (fun hh => h hh.1)]
theorem own_look {w : World} {b : Nat} {pre : List Acc} (h : MapAt Try.prog 3 w b (ownV pre)) {o : Int} (wo : (Lit.int .i64 o).wf = true) :
    (Instr.lookup 100 (.map (some b)) (.int .i64 o) true).run Try.prog w = .ok (.tuple #[.int .i64 ((ownOf pre o).getD 0), .bool (ownOf pre o).isSome]) w := by
  have := run_lookup_ok keyed_thread Try.underlying100 (z := .int .i64 0) (by intro u; go_simp) (keyOf_thread wo) h
  rw [this, ownV_at]
  cases ownOf pre o <;> rfl

theorem belowSet {B : Nat} {a w : World} (h : Below B a w) {b : Nat} (hb : B ≤ b) (o : Obj) : Below B a (setBlock w b o) :=
  ⟨h.os, h.tape, h.output, by have := h.size; simpa [setBlock] using this, fun k hk => by
    have := h.block k hk
    rw [← this]
    simp [setBlock, show b ≠ k by omega]⟩
theorem valsAt {w : World} {A : Option Addr} {xs : List Int} (h : kI.C w A xs.length xs) (o : Int) (h0 : 0 ≤ o) (h1 : o < (xs.length : Int)) : ∃ ad x, A = some ad ∧ w.cell? (ad.add o.toNat) = some (.int .i64 x) ∧ valAt xs o = some x := by
  have hk : o.toNat < xs.length := by omega
  obtain ⟨ad, c, e, _, hK, hc0⟩ := Kd.C_get h 0 o h0 (by omega)
  have hx : xs.getD o.toNat 0 = xs[o.toNat] := by simp [List.getD, hk]
  rw [hx] at hK
  have hK' : c = [.int .i64 xs[o.toNat]] := hK
  subst hK'
  have := hc0 0 _ rfl
  have e1 : o.toNat * kI.sz + 0 = o.toNat := by show o.toNat * 1 + 0 = o.toNat; omega
  rw [e1] at this
  exact ⟨ad, _, e, this, by unfold valAt; rw [if_pos h0, List.getElem?_eq_getElem hk]⟩

set_option maxHeartbeats 8000000 in
set_option maxRecDepth 100000 in
theorem fits_any (w : World) (A : Option Addr) (c : Nat) (vs : List Int) (t : Tr) (A8 : Option Addr) (c8 : Nat) (hC : kI.C w A vs.length vs) (hl : vs.length ≤ 1000000) (hT : kAcc.C w A8 t.f8.length t.f8) (ht : t.f8.length ≤ 1000000) (hw : ∀ a ∈ t.f8, (Lit.int .i64 a.f2).wf = true) :
    Calls Try.prog 38 #[.slice A vs.length c, .agg #[.int .i64 t.f0, .int .i64 t.f1, .int .i64 t.f2, .int .i64 t.f3, .int .i64 t.f4, .int .i64 t.f5, .int .i64 t.f6, .bool t.f7, .slice A8 t.f8.length c8]] w
      fun e w' => e = .returned (.bool (fitsM vs t.f8)) ∧ Below w.heap.size w w' := by
  have HC := Veil.mk hC
  have HL := Veil.mk hl
  have HT := Veil.mk hT
  have HTL := Veil.mk ht
  have HWF := Veil.mk hw
  clear hC hl hT ht hw
  have hmm := @run_makeMap Try.prog
  go_enter Try.func38, Try.ntmps38
  go_wp2
  clear hmm
  have hm0 := MapAt.made Try.prog 3 (w.alloc (.cells #[.int .i64 t.f0, .int .i64 t.f1, .int .i64 t.f2, .int .i64 t.f3, .int .i64 t.f4, .int .i64 t.f5, .int .i64 t.f6, .bool t.f7, .slice A8 t.f8.length c8] 29))
  rw [World.size_alloc] at hm0
  have HM0 : Veil (MapAt Try.prog 3 ((w.alloc (.cells #[.int .i64 t.f0, .int .i64 t.f1, .int .i64 t.f2, .int .i64 t.f3, .int .i64 t.f4, .int .i64 t.f5, .int .i64 t.f6, .bool t.f7, .slice A8 t.f8.length c8] 29)).alloc (.map #[] 0)) (w.heap.size + 1) (ownV (t.f8.take 0))) := ⟨hm0.ext (fun x => by unfold ownV; cases key1 x <;> rfl)⟩
  have HB0 : Veil (Below w.heap.size w ((w.alloc (.cells #[.int .i64 t.f0, .int .i64 t.f1, .int .i64 t.f2, .int .i64 t.f3, .int .i64 t.f4, .int .i64 t.f5, .int .i64 t.f6, .bool t.f7, .slice A8 t.f8.length c8] 29)).alloc (.map #[] 0))) := ⟨((Below.refl _ _).alloc (Nat.le_refl _) _).alloc (by simp) _⟩
  clear hm0
  go_loopw [14] (fun v14 wr => ∃ k : Nat, k ≤ t.f8.length ∧ v14 = .int .i64 k ∧ Veil (fitsUpTo vs t.f8 k = true) ∧ Veil (MapAt Try.prog 3 wr (w.heap.size + 1) (ownV (t.f8.take k))) ∧ Veil (Below w.heap.size w wr)) (fun v14 _ => t.f8.length - (intOf v14).toNat)
  case atStart => exact ⟨0, Nat.zero_le _, rfl, ⟨rfl⟩, HM0, HB0⟩
  case round =>
    obtain ⟨k, hk, rfl, HF, HM, HB⟩ := hrel
    have htl := HTL.out
    have hvl := HL.out
    by_cases hlt : k < t.f8.length
    · have d1 : decide ((k : Int) < (t.f8.length : Int)) = true := decide_eq_true (by omega)
      have d2 : (k : Int) < (t.f8.length : Int) := by omega
      obtain ⟨ad, rfl, h0, h1, h2, h3, h4, h5⟩ := at_T33 (Kd.C_below HT.out HB.out) (k : Int) (by omega) (by omega)
      have hx : rd_T33 t.f8 (k : Int) = t.f8[k] := by unfold rd_T33; simp [List.getD, hlt]
      simp only [Int.toNat_natCast, hx] at h0 h1 h2 h3 h4 h5
      have HN := Veil.mk (fitsUpTo_next vs t.f8 hlt)
      have HNO := Veil.mk (fits_no vs t.f8 hlt)
      have HTK := Veil.mk (show t.f8.take (k + 1) = t.f8.take k ++ [t.f8[k]] from List.take_succ_eq_append_getElem hlt)
      have HWK := Veil.mk (HWF.out t.f8[k] (List.getElem_mem hlt))
      obtain ⟨a, ha⟩ : ∃ a, t.f8[k] = a := ⟨_, rfl⟩
      rw [ha] at h0 h1 h2 h3 h4 h5 HN HNO HTK HWK
      clear hx ha
      obtain ⟨a0, a1, a2, a3, a4, a5⟩ := a
      dsimp only at h0 h1 h2 h3 h4 h5 HWK
      obtain ⟨pre, hpre⟩ : ∃ pre, t.f8.take k = pre := ⟨_, rfl⟩
      rw [hpre] at HM HN HNO HTK
      clear hpre
      have HMX := Veil.mk (HM.out.same (w' := wr.alloc (.cells #[.int .i64 a0, .int .i64 a1, .int .i64 a2, .int .i64 a3, .bool a4, .bool a5] 33)) (Below.heap_alloc _ _ _ HM.out.lt))
      by_cases e1 : a1 = 3
      · have m1 : (a1 == 3) = true := beq_iff_eq.2 e1
        have HK : Veil (fitsUpTo vs t.f8 (k + 1) = true) := ⟨by rw [HN.out, HF.out, okAt_other _ _ _ _ _ _ _ _ (by omega)]; rfl⟩
        obtain ⟨o2, hr, hm2⟩ := run_update keyed_thread Try.underlying100 (keyOf_thread HWK.out) HMX.out (.int .i64 a3)
        have HM2 := Veil.mk (hm2.ext (ownV_put pre ⟨a0, a1, a2, a3, a4, a5⟩ e1))
        clear e1 hm2
        go_wp2
        exact ⟨⟨k + 1, by omega, by go_num, HK, ⟨by rw [HTK.out]; exact HM2.out⟩, ⟨belowSet (HB.out.alloc HB.out.size _) (by omega) _⟩⟩, by simp [intOf]; omega⟩
      · have m1 : (a1 == 3) = false := beq_eq_false_iff_ne.2 e1
        have HMK : Veil (MapAt Try.prog 3 (wr.alloc (.cells #[.int .i64 a0, .int .i64 a1, .int .i64 a2, .int .i64 a3, .bool a4, .bool a5] 33)) (w.heap.size + 1) (ownV (t.f8.take (k + 1)))) := ⟨by rw [HTK.out]; exact HMX.out.ext (ownV_keep pre ⟨a0, a1, a2, a3, a4, a5⟩ e1)⟩
        clear e1
        by_cases e2 : a1 = 2
        · have m2 : (a1 != 2) = false := by simp [e2]
          cases a5 with
          | true =>
            have HK : Veil (fitsUpTo vs t.f8 (k + 1) = true) := ⟨by rw [HN.out, HF.out, okAt_rel]; rfl⟩
            clear e2
            go_wp2
            exact ⟨⟨k + 1, by omega, by go_num, HK, HMK, ⟨HB.out.alloc HB.out.size _⟩⟩, by simp [intOf]; omega⟩
          | false =>
            cases ho : ownOf pre a2 with
            | some v =>
              have HOK := Veil.mk (okAt_own vs pre a0 a1 a2 a3 a4 e2 ho)
              have hlk := own_look HMX.out HWK.out
              rw [ho] at hlk
              simp only [Option.getD_some, Option.isSome_some] at hlk
              clear ho e2
              cases a4 with
              | false =>
                have HNF : Veil (fitsM vs t.f8 = false) := ⟨HNO.out (by rw [HOK.out]; rfl)⟩
                go_wp2
                go_ret
                exact ⟨by rw [HNF.out]; rfl, HB.out.alloc HB.out.size _⟩
              | true =>
                by_cases e3 : v = a3
                · have m3 : (v != a3) = false := by simp [e3]
                  have HK : Veil (fitsUpTo vs t.f8 (k + 1) = true) := ⟨by rw [HN.out, HF.out, HOK.out, e3]; simp⟩
                  clear e3
                  go_wp2
                  exact ⟨⟨k + 1, by omega, by go_num, HK, HMK, ⟨HB.out.alloc HB.out.size _⟩⟩, by simp [intOf]; omega⟩
                · have m3 : (v != a3) = true := by simp [e3]
                  have HNF : Veil (fitsM vs t.f8 = false) := ⟨HNO.out (by rw [HOK.out]; simpa using e3)⟩
                  clear e3
                  go_wp2
                  go_ret
                  exact ⟨by rw [HNF.out]; rfl, HB.out.alloc HB.out.size _⟩
            | none =>
              have HOK := Veil.mk (okAt_not vs pre a0 a1 a2 a3 a4 e2 ho)
              have hlk := own_look HMX.out HWK.out
              rw [ho] at hlk
              simp only [Option.getD_none, Option.isSome_none] at hlk
              clear ho e2
              cases a4 with
              | true =>
                have HNF : Veil (fitsM vs t.f8 = false) := ⟨HNO.out (by rw [HOK.out]; rfl)⟩
                go_wp2
                go_ret
                exact ⟨by rw [HNF.out]; rfl, HB.out.alloc HB.out.size _⟩
              | false =>
                by_cases e3 : a2 < 0
                · have m3 : decide (a2 < 0) = true := decide_eq_true e3
                  have HNF : Veil (fitsM vs t.f8 = false) := ⟨HNO.out (by rw [HOK.out]; unfold valAt; rw [if_neg (by omega)]; rfl)⟩
                  go_wp2
                  go_ret
                  exact ⟨by rw [HNF.out]; rfl, HB.out.alloc HB.out.size _⟩
                · have m3 : decide (a2 < 0) = false := decide_eq_false e3
                  by_cases e6 : (vs.length : Int) ≤ a2
                  · have m6 : decide ((vs.length : Int) ≤ a2) = true := decide_eq_true e6
                    have HNF : Veil (fitsM vs t.f8 = false) := ⟨HNO.out (by rw [HOK.out]; unfold valAt; rw [if_pos (by omega), List.getElem?_eq_none (by omega)]; rfl)⟩
                    go_wp2
                    go_ret
                    exact ⟨by rw [HNF.out]; rfl, HB.out.alloc HB.out.size _⟩
                  · have m6 : decide ((vs.length : Int) ≤ a2) = false := decide_eq_false e6
                    obtain ⟨av, x, rfl, x0, hx⟩ := valsAt (Kd.C_below HC.out HB.out) a2 (by omega) (by omega)
                    have x0' := alloc_cell x0
                    have e7 : 0 ≤ a2 := by omega
                    have e8 : a2 < (vs.length : Int) := by omega
                    rw [hx] at HOK
                    clear hx
                    by_cases e9 : x = a3
                    · have m9 : (x != a3) = false := by simp [e9]
                      have HK : Veil (fitsUpTo vs t.f8 (k + 1) = true) := ⟨by rw [HN.out, HF.out, HOK.out, e9]; simp⟩
                      clear e9
                      go_wp2
                      exact ⟨⟨k + 1, by omega, by go_num, HK, HMK, ⟨HB.out.alloc HB.out.size _⟩⟩, by simp [intOf]; omega⟩
                    · have m9 : (x != a3) = true := by simp [e9]
                      have HNF : Veil (fitsM vs t.f8 = false) := ⟨HNO.out (by rw [HOK.out]; simpa using e9)⟩
                      clear e9
                      go_wp2
                      go_ret
                      exact ⟨by rw [HNF.out]; rfl, HB.out.alloc HB.out.size _⟩
        · have m2 : (a1 != 2) = true := by simp [e2]
          have HK : Veil (fitsUpTo vs t.f8 (k + 1) = true) := ⟨by rw [HN.out, HF.out, okAt_other _ _ _ _ _ _ _ _ e2]; rfl⟩
          clear e2
          go_wp2
          exact ⟨⟨k + 1, by omega, by go_num, HK, HMK, ⟨HB.out.alloc HB.out.size _⟩⟩, by simp [intOf]; omega⟩
    · have d1 : decide ((k : Int) < (t.f8.length : Int)) = false := decide_eq_false (by omega)
      have HE : Veil (fitsM vs t.f8 = true) := ⟨by unfold fitsM; rw [← show k = t.f8.length by omega]; exact HF.out⟩
      go_wp2
      go_ret
      exact ⟨by rw [HE.out]; rfl, HB.out⟩
end Go.Proofs.Ytjmnbbflahacoaa.Model
/- ModelReads, plain: what plays a part in whether a try fits. No condition. -/
namespace Go.Proofs.Ytjmnbbflahacoaa.Model
open Go.RowKit Go.Proofs.Ytjmnbbflahacoaa.Mem Go.Proofs.Ytjmnbbflahacoaa.Hist Go.Proofs.Ytjmnbbflahacoaa.PHistTells Go.Proofs.YtjmnbbflahacoaaW.PrintWords
set_option linter.unusedVariables false
set_option linter.unusedSimpArgs false

end Go.Proofs.Ytjmnbbflahacoaa.Model
