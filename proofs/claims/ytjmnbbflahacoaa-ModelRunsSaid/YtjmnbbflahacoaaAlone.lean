/- lang: Alone, walked. No condition. -/
import Derived.Test.YtjmnbbflahacoaaSolo
namespace Go.Proofs.Ytjmnbbflahacoaa.Lang
open Go.RowKit Go.Maps Go.ChangeMaps Go.Proofs.Ytjmnbbflahacoaa.Mem Go.Proofs.Ytjmnbbflahacoaa.Hist Go.Proofs.Ytjmnbbflahacoaa.Model Go.Proofs.YtjmnbbflahacoaaW.PrintWords
set_option linter.unusedVariables false
set_option linter.unusedSimpArgs false

/-- One step of a transaction that is done alone. -/
def stepO (x : List Int × Int) (o : Op) : List Int × Int :=
  if o.f0 = 1 then (x.1, x.1.getD o.f1.toNat 0) else if o.f0 = 2 then (x.1.set o.f1.toNat x.2, x.2) else if o.f0 = 3 ∨ o.f0 = 4 then (x.1, sumO o x.2) else x
def runO (vs : List Int) (l : List Op) : List Int × Int := l.foldl stepO (vs, 0)
/-- The values behind a transaction that is done alone. -/
def aloneM (l : List Op) (vs : List Int) : List Int := (runO vs l).1
theorem runO_next (vs : List Int) (l : List Op) {k : Nat} (h : k < l.length) : runO vs (l.take (k + 1)) = stepO (runO vs (l.take k)) l[k] := by
  unfold runO
  rw [List.take_succ_eq_append_getElem h, List.foldl_append]
  rfl
theorem stepO_length (x : List Int × Int) (o : Op) : (stepO x o).1.length = x.1.length := by
  unfold stepO
  split
  · rfl
  split
  · simp
  split <;> rfl
theorem runO_length (l : List Op) : ∀ x : List Int × Int, (l.foldl stepO x).1.length = x.1.length := by
  induction l with
  | nil => intro x; rfl
  | cons o l ih => intro x; rw [List.foldl_cons, ih, stepO_length]
theorem aloneM_length (l : List Op) (vs : List Int) : (aloneM l vs).length = vs.length := runO_length l _
theorem right_each {l : List Op} {n : Int} (h : rightO l n = true) : l.length ≤ 8 ∧ ∀ o ∈ l, opOk o n = true := by
  unfold rightO at h
  simp only [Bool.and_eq_true, decide_eq_true_eq, Bool.not_eq_true', List.any_eq_false] at h
  exact ⟨h.1.2, fun o ho => by have := h.2 o ho; simpa using this⟩
theorem ok_obj {o : Op} {n : Int} (h : opOk o n = true) (hk : o.f0 = 1 ∨ o.f0 = 2) : 0 ≤ o.f1 ∧ o.f1 < n := by
  unfold opOk at h
  have : objK o.f0 = true := by unfold objK; rcases hk with e | e <;> rw [e] <;> rfl
  rw [if_pos this] at h
  simp only [Bool.and_eq_true, decide_eq_true_eq] at h
  exact h.1

theorem belowSet {B : Nat} {a w : World} (h : Below B a w) {b : Nat} (hb : B ≤ b) (o : Obj) : Below B a (setBlock w b o) :=
  ⟨h.os, h.tape, h.output, by have := h.size; simpa [setBlock] using this, fun k hk => by
    have := h.block k hk
    rw [← this]
    simp [setBlock, show b ≠ k by omega]⟩
/-- What the map says of a kind. -/
def doesF (f b : Nat) : Value := .func (.func f) #[.pointer (some ⟨b, 0, none⟩)] #[]
def doesV (b : Nat) (v : Value) : Option Value := (key1 v).bind fun k => if k = 1 then some (doesF 83 b) else if k = 2 then some (doesF 84 b) else if k = 3 ∨ k = 4 then some (doesF 85 b) else none
theorem doesV_is (b : Nat) (v : Value) : doesV b v = put (put (put (put (fun _ => none) (.int .i64 1) (doesF 83 b)) (.int .i64 2) (doesF 84 b)) (.int .i64 3) (doesF 85 b)) (.int .i64 4) (doesF 85 b) v := by
  by_cases h4 : v = .int .i64 4
  · subst h4; rw [put_same]; rfl
  rw [put_other _ _ h4]
  by_cases h3 : v = .int .i64 3
  · subst h3; rw [put_same]; rfl
  rw [put_other _ _ h3]
  by_cases h2 : v = .int .i64 2
  · subst h2; rw [put_same]; rfl
  rw [put_other _ _ h2]
  by_cases h1 : v = .int .i64 1
  · subst h1; rw [put_same]; rfl
  rw [put_other _ _ h1]
  unfold doesV
  cases hk : key1 v with
  | none => rfl
  | some k =>
    have hv := key1_of hk
    simp only [Option.bind_some]
    rw [if_neg (fun e => h1 (by rw [hv, e])), if_neg (fun e => h2 (by rw [hv, e])), if_neg (fun e => by rcases e with e | e; exact h3 (by rw [hv, e]); exact h4 (by rw [hv, e]))]
theorem does_look {w : World} {m b : Nat} (h : MapAt Try.prog 3 w m (doesV b)) {k : Int} (wk : (Lit.int .i64 k).wf = true) :
    (Instr.lookup 140 (.map (some m)) (.int .i64 k) false).run Try.prog w = .ok ((doesV b (.int .i64 k)).getD .nilFunc) w :=
  run_lookup keyed_thread Try.underlying140 (z := .nilFunc) (by intro u; go_simp) (keyOf_thread wk) h
theorem wf_few {n : Int} (h0 : -1000000 ≤ n) (h1 : n ≤ 1000000) : (Lit.int .i64 n).wf = true := by
  have e0 : IntKind.i64.min = -9223372036854775808 := by decide
  have e1 : IntKind.i64.max = 9223372036854775807 := by decide
  show (decide (IntKind.i64.min ≤ n) && decide (n ≤ IntKind.i64.max)) = true
  rw [e0, e1, Bool.and_eq_true]
  exact ⟨decide_eq_true (by omega), decide_eq_true (by omega)⟩
/-- The four entries, laid one behind the other. -/
theorem does_made (W : World) (b : Nat) : ∃ o1 o2 o3 o4 : Obj,
    (Instr.mapUpdate 140 (.map (some W.heap.size)) (.int .i64 1) (doesF 83 b)).run Try.prog (W.alloc (.map #[] 0)) = .ok () (setBlock (W.alloc (.map #[] 0)) W.heap.size o1) ∧
    (Instr.mapUpdate 140 (.map (some W.heap.size)) (.int .i64 2) (doesF 84 b)).run Try.prog (setBlock (W.alloc (.map #[] 0)) W.heap.size o1) = .ok () (setBlock (setBlock (W.alloc (.map #[] 0)) W.heap.size o1) W.heap.size o2) ∧
    (Instr.mapUpdate 140 (.map (some W.heap.size)) (.int .i64 3) (doesF 85 b)).run Try.prog (setBlock (setBlock (W.alloc (.map #[] 0)) W.heap.size o1) W.heap.size o2) = .ok () (setBlock (setBlock (setBlock (W.alloc (.map #[] 0)) W.heap.size o1) W.heap.size o2) W.heap.size o3) ∧
    (Instr.mapUpdate 140 (.map (some W.heap.size)) (.int .i64 4) (doesF 85 b)).run Try.prog (setBlock (setBlock (setBlock (W.alloc (.map #[] 0)) W.heap.size o1) W.heap.size o2) W.heap.size o3) = .ok () (setBlock (setBlock (setBlock (setBlock (W.alloc (.map #[] 0)) W.heap.size o1) W.heap.size o2) W.heap.size o3) W.heap.size o4) ∧
    MapAt Try.prog 3 (setBlock (setBlock (setBlock (setBlock (W.alloc (.map #[] 0)) W.heap.size o1) W.heap.size o2) W.heap.size o3) W.heap.size o4) W.heap.size (doesV b) ∧
    Below W.heap.size W (setBlock (setBlock (setBlock (setBlock (W.alloc (.map #[] 0)) W.heap.size o1) W.heap.size o2) W.heap.size o3) W.heap.size o4) := by
  have h0 := MapAt.made Try.prog 3 W
  obtain ⟨o1, r1, h1⟩ := run_update keyed_thread Try.underlying140 (keyOf_thread (wf_few (n := 1) (by omega) (by omega))) h0 (doesF 83 b)
  obtain ⟨o2, r2, h2⟩ := run_update keyed_thread Try.underlying140 (keyOf_thread (wf_few (n := 2) (by omega) (by omega))) h1 (doesF 84 b)
  obtain ⟨o3, r3, h3⟩ := run_update keyed_thread Try.underlying140 (keyOf_thread (wf_few (n := 3) (by omega) (by omega))) h2 (doesF 85 b)
  obtain ⟨o4, r4, h4⟩ := run_update keyed_thread Try.underlying140 (keyOf_thread (wf_few (n := 4) (by omega) (by omega))) h3 (doesF 85 b)
  have hb0 := (Below.refl W.heap.size W).alloc (Nat.le_refl _) (.map #[] 0)
  exact ⟨o1, o2, o3, o4, r1, r2, r3, r4, h4.ext (doesV_is b), belowSet (belowSet (belowSet (belowSet hb0 (Nat.le_refl _) o1) (Nat.le_refl _) o2) (Nat.le_refl _) o3) (Nat.le_refl _) o4⟩

theorem does_made' (W : World) (b n : Nat) (hn : W.heap.size = n) : ∃ o1 o2 o3 o4 : Obj,
    (Instr.mapUpdate 140 (.map (some n)) (.int .i64 1) (.func (.func 83) #[.pointer (some ⟨b, 0, none⟩)] #[])).run Try.prog (W.alloc (.map #[] 0)) = .ok () (setBlock (W.alloc (.map #[] 0)) n o1) ∧
    (Instr.mapUpdate 140 (.map (some n)) (.int .i64 2) (.func (.func 84) #[.pointer (some ⟨b, 0, none⟩)] #[])).run Try.prog (setBlock (W.alloc (.map #[] 0)) n o1) = .ok () (setBlock (setBlock (W.alloc (.map #[] 0)) n o1) n o2) ∧
    (Instr.mapUpdate 140 (.map (some n)) (.int .i64 3) (.func (.func 85) #[.pointer (some ⟨b, 0, none⟩)] #[])).run Try.prog (setBlock (setBlock (W.alloc (.map #[] 0)) n o1) n o2) = .ok () (setBlock (setBlock (setBlock (W.alloc (.map #[] 0)) n o1) n o2) n o3) ∧
    (Instr.mapUpdate 140 (.map (some n)) (.int .i64 4) (.func (.func 85) #[.pointer (some ⟨b, 0, none⟩)] #[])).run Try.prog (setBlock (setBlock (setBlock (W.alloc (.map #[] 0)) n o1) n o2) n o3) = .ok () (setBlock (setBlock (setBlock (setBlock (W.alloc (.map #[] 0)) n o1) n o2) n o3) n o4) ∧
    MapAt Try.prog 3 (setBlock (setBlock (setBlock (setBlock (W.alloc (.map #[] 0)) n o1) n o2) n o3) n o4) n (doesV b) ∧
    Below W.heap.size W (setBlock (setBlock (setBlock (setBlock (W.alloc (.map #[] 0)) n o1) n o2) n o3) n o4) := by
  subst hn
  exact does_made W b

theorem run_do (b f : Nat) (W : World) : (binOp .neq 139 (.func (.func f) #[.pointer (some ⟨b, 0, none⟩)] #[]) .nilFunc).run Try.prog W = .ok (.bool true) W := by kernel_rfl
theorem run_dont (W : World) : (binOp .neq 139 .nilFunc .nilFunc).run Try.prog W = .ok (.bool false) W := by kernel_rfl

/-- What stands in Alone's loop. -/
structure AlAt (w0 wr : World) (b m : Nat) (A : Option Addr) (c : Nat) (x : List Int × Int) : Prop where
  solo : SoloAt wr w0.heap.size b A c x.1 x.2
  map : MapAt Try.prog 3 wr m (doesV b)
  gap : b < m
  below : Below w0.heap.size w0 wr
theorem AlAt.upd {w0 wr w' : World} {b m : Nat} {A : Option Addr} {c : Nat} {x y : List Int × Int} (h : AlAt w0 wr b m A c x) (hs : SoloAt w' w0.heap.size b A c y.1 y.2) (hu : Upd (ofSolo b A) wr w') : AlAt w0 w' b m A c y := by
  have hof : ∀ k, ofSolo b A k → w0.heap.size ≤ k ∧ k ≤ b := fun k hk => by
    rcases hk with rfl | hk
    · exact ⟨h.solo.low, Nat.le_refl _⟩
    · have := h.solo.own hk
      omega
  refine ⟨hs, h.map.upd hu (fun hk => ?_), h.gap, ?_⟩
  · have := hof _ hk
    have := h.gap
    omega
  · exact h.below.trans (hu.below h.below.size (fun k hk hh => by have := hof k hh; omega))
theorem AlAt.step {w0 wr w' : World} {b m : Nat} {A : Option Addr} {c : Nat} {x : List Int × Int} (h : AlAt w0 wr b m A c x) (hb : Below wr.heap.size wr w') : AlAt w0 w' b m A c x :=
  ⟨h.solo.below hb, h.map.same (hb.block m h.map.lt), h.gap, below_of h.below hb⟩

set_option maxHeartbeats 16000000 in
set_option maxRecDepth 100000 in
theorem alone_any (w : World) (A : Option Addr) (c : Nat) (l : List Op) (Av : Option Addr) (cv : Nat) (vs : List Int) (hC : kOp.C w A l.length l) (hl : l.length ≤ 1000000) (hok : ∀ o ∈ l, (Lit.int .i64 o.f0).wf = true) (hV : kI.C w Av vs.length vs) (hvl : vs.length ≤ 1000000) :
    Calls Try.prog 66 #[.slice A l.length c, .slice Av vs.length cv] w
      fun e w' => ∃ v, e = .returned (.tuple #[v, .int .i64 (if rightO l vs.length then 0 else 3)]) ∧ (rightO l vs.length = true → kI.R 2 w' w.heap.size (fun _ => True) v (aloneM l vs)) ∧ (rightO l vs.length = false → v = .slice none 0 0) ∧ Below w.heap.size w w' := by
  have HC := Veil.mk hC
  have HL := Veil.mk hl
  have HO := Veil.mk hok
  have HV := Veil.mk hV
  have HVL := Veil.mk hvl
  have HR := Veil.mk (right_any w A c l vs.length hC hl)
  clear hC hl hok hV hvl
  cases hr : rightO l vs.length with
  | false =>
    rw [hr] at HR
    clear hr
    go_enter Try.func66, Try.ntmps66
    go_wp2_with (first | (go_at_call 82; go_must (refine HR.out.mono ?_; rintro ed w2 ⟨rfl, hb⟩; have HB2 := Veil.mk hb; clear hb)))
    go_ret2
    exact ⟨_, rfl, rfl, HB2.out⟩
  | true =>
    rw [hr] at HR
    have HE := Veil.mk (right_each hr)
    clear hr
    have hmm := @run_makeMap Try.prog
    go_enter Try.func66, Try.ntmps66
    go_wp2_with (first | (go_at_call 82; go_must (refine HR.out.mono ?_; rintro ed w2 ⟨rfl, hb⟩; have HB2 := Veil.mk hb; clear hb)) | (go_at_call 63; go_must (refine (clone_any _ Av cv vs (Kd.C_below HV.out HB2.out) HVL.out).mono ?_; rintro ed w3 ⟨v, rfl, hv, hb⟩; have HV3 := Veil.mk hv; have HB3 := Veil.mk (below_of HB2.out hb); have HZ3 := Veil.mk HB2.out.size; obtain ⟨B, d, rfl⟩ := Kd.R_slice hv; obtain ⟨o1, o2, o3, o4, r1, r2, r3, r4, hmb4⟩ := does_made' (w3.alloc (.cells #[.slice B vs.length d, .int .i64 0] 138)) w3.heap.size (w3.heap.size + 1) (World.size_alloc _ _); have HM4 := Veil.mk hmb4; clear hv hb hmb4)))
    clear hmm r1 r2 r3 r4
    have HS0 : Veil (AlAt w (setBlock (setBlock (setBlock (setBlock ((w3.alloc (.cells #[.slice B vs.length d, .int .i64 0] 138)).alloc (.map #[] 0)) (w3.heap.size + 1) o1) (w3.heap.size + 1) o2) (w3.heap.size + 1) o3) (w3.heap.size + 1) o4) w3.heap.size (w3.heap.size + 1) B d (runO vs (l.take 0))) := ⟨by
      have hbk := (Blk.new w3 #[.slice B vs.length d, .int .i64 0] 138)
      have hba := (Below.refl w3.heap.size w3).alloc (Nat.le_refl _) (.cells #[.slice B vs.length d, .int .i64 0] 138)
      have hr := Kd.R_below (Kd.R_mono (Kd.R_bound (Kd.R_lower HV3.out HZ3.out)) (fun k hk => hk.2.2.1)) hba
      have hs : SoloAt (w3.alloc (.cells #[.slice B vs.length d, .int .i64 0] 138)) w.heap.size w3.heap.size B d vs 0 := ⟨hbk, hr, HB3.out.size⟩
      exact ⟨hs.below HM4.out.2, HM4.out.1, Nat.lt_succ_self _, below_of (HB3.out.trans (hba.mono HB3.out.size)) HM4.out.2⟩⟩
    generalize setBlock (setBlock (setBlock (setBlock ((w3.alloc (.cells #[.slice B vs.length d, .int .i64 0] 138)).alloc (.map #[] 0)) (w3.heap.size + 1) o1) (w3.heap.size + 1) o2) (w3.heap.size + 1) o3) (w3.heap.size + 1) o4 = w4 at *
    obtain ⟨b, hbN⟩ : ∃ b, w3.heap.size = b := ⟨_, rfl⟩
    rw [hbN] at HS0 HM4 ⊢
    clear HM4 HB2 HB3 HZ3 HV3 HR hbN
    go_loopw [32] (fun v32 wr => ∃ k : Nat, k ≤ l.length ∧ v32 = .int .i64 k ∧ Veil (AlAt w wr b (b + 1) B d (runO vs (l.take k)))) (fun v32 _ => l.length - (intOf v32).toNat)
    case atStart => exact ⟨0, Nat.zero_le _, rfl, HS0⟩
    case round =>
      obtain ⟨k, hk, rfl, HA⟩ := hrel
      have hll := HE.out.1
      have hRL : (runO vs (l.take k)).1.length = vs.length := by unfold runO; rw [runO_length]
      by_cases hlt : k < l.length
      · as_aux_lemma =>
        have d1 : decide ((k : Int) < (l.length : Int)) = true := decide_eq_true (by omega)
        have d2 : (k : Int) < (l.length : Int) := by omega
        obtain ⟨ad, rfl, h0, h1, h2⟩ := op_at (Kd.C_below HC.out HA.out.below) k hlt
        have hokk := HE.out.2 l[k] (List.getElem_mem hlt)
        have hwf := HO.out l[k] (List.getElem_mem hlt)
        have HN := Veil.mk (runO_next vs l hlt)
        obtain ⟨o, ho⟩ : ∃ o, l[k] = o := ⟨_, rfl⟩
        rw [ho] at h0 h1 h2 hokk hwf HN
        have HBA := Veil.mk ((Below.refl wr.heap.size wr).alloc (Nat.le_refl _) (.cells #[.int .i64 o.f0, .int .i64 o.f1, .int .i64 o.f2] 142))
        have HA1 := Veil.mk (HA.out.step HBA.out)
        have HLK : Veil (∀ n, (Instr.lookup 140 (.map (some (b + 1))) (.int .i64 o.f0) false).run Try.prog ((wr.alloc (.cells #[.int .i64 o.f0, .int .i64 o.f1, .int .i64 o.f2] 142)).drewN n) = .ok ((doesV b (.int .i64 o.f0)).getD .nilFunc) ((wr.alloc (.cells #[.int .i64 o.f0, .int .i64 o.f1, .int .i64 o.f2] 142)).drewN n)) :=
          ⟨fun n => does_look (HA1.out.step ((Below.refl _ _).drewN n)).map hwf⟩
        by_cases k1 : o.f0 = 1
        · skip
          have HX := Veil.mk (ok_obj hokk (.inl k1))
          have hlk : ∀ n, (Instr.lookup 140 (.map (some (b + 1))) (.int .i64 o.f0) false).run Try.prog ((wr.alloc (.cells #[.int .i64 o.f0, .int .i64 o.f1, .int .i64 o.f2] 142)).drewN n) = .ok (.func (.func 83) #[.pointer (some ⟨b, 0, none⟩)] #[]) ((wr.alloc (.cells #[.int .i64 o.f0, .int .i64 o.f1, .int .i64 o.f2] 142)).drewN n) := fun n => by
            rw [HLK.out n]; unfold doesV key1; rw [k1]; rfl
          have hlk0 := hlk 0
          change (Instr.lookup _ _ _ _).run _ (wr.alloc _) = .ok _ (wr.alloc _) at hlk0
          have qd := run_do b 83
          have HST : Veil (stepO (runO vs (l.take k)) o = ((runO vs (l.take k)).1, (runO vs (l.take k)).1.getD o.f1.toNat 0)) := ⟨by unfold stepO; rw [if_pos k1]⟩
          clear k1 hokk hwf HLK ho
          go_wp2_with (first | (go_at_call 83; go_must (refine (read_any _ w.heap.size b B d _ _ o HA1.out.solo HX.out.1 (by rw [hRL]; exact HX.out.2)).mono ?_; rintro e w7 ⟨rfl, hs, hu⟩; have HF : Veil (AlAt w w7 b (b + 1) B d (runO vs (l.take (k + 1)))) := ⟨by rw [HN.out, HST.out]; exact HA1.out.upd (y := ((runO vs (l.take k)).1, (runO vs (l.take k)).1.getD o.f1.toNat 0)) hs hu⟩; clear hs hu)))
          exact ⟨⟨k + 1, by omega, by go_num, HF⟩, by simp [intOf]; omega⟩
        by_cases k2 : o.f0 = 2
        · skip
          have HX := Veil.mk (ok_obj hokk (.inr k2))
          have hlk : ∀ n, (Instr.lookup 140 (.map (some (b + 1))) (.int .i64 o.f0) false).run Try.prog ((wr.alloc (.cells #[.int .i64 o.f0, .int .i64 o.f1, .int .i64 o.f2] 142)).drewN n) = .ok (.func (.func 84) #[.pointer (some ⟨b, 0, none⟩)] #[]) ((wr.alloc (.cells #[.int .i64 o.f0, .int .i64 o.f1, .int .i64 o.f2] 142)).drewN n) := fun n => by
            rw [HLK.out n]; unfold doesV key1; rw [k2]; rfl
          have hlk0 := hlk 0
          change (Instr.lookup _ _ _ _).run _ (wr.alloc _) = .ok _ (wr.alloc _) at hlk0
          have qd := run_do b 84
          have HST : Veil (stepO (runO vs (l.take k)) o = ((runO vs (l.take k)).1.set o.f1.toNat (runO vs (l.take k)).2, (runO vs (l.take k)).2)) := ⟨by unfold stepO; rw [if_neg k1, if_pos k2]⟩
          clear k1 k2 hokk hwf HLK ho
          go_wp2_with (first | (go_at_call 84; go_must (refine (write_any _ w.heap.size b B d _ _ o HA1.out.solo HX.out.1 (by rw [hRL]; exact HX.out.2)).mono ?_; rintro e w7 ⟨rfl, hs, hu⟩; have HF : Veil (AlAt w w7 b (b + 1) B d (runO vs (l.take (k + 1)))) := ⟨by rw [HN.out, HST.out]; exact HA1.out.upd (y := ((runO vs (l.take k)).1.set o.f1.toNat (runO vs (l.take k)).2, (runO vs (l.take k)).2)) hs hu⟩; clear hs hu)))
          exact ⟨⟨k + 1, by omega, by go_num, HF⟩, by simp [intOf]; omega⟩
        by_cases k3 : o.f0 = 3 ∨ o.f0 = 4
        · skip
          have hlk : ∀ n, (Instr.lookup 140 (.map (some (b + 1))) (.int .i64 o.f0) false).run Try.prog ((wr.alloc (.cells #[.int .i64 o.f0, .int .i64 o.f1, .int .i64 o.f2] 142)).drewN n) = .ok (.func (.func 85) #[.pointer (some ⟨b, 0, none⟩)] #[]) ((wr.alloc (.cells #[.int .i64 o.f0, .int .i64 o.f1, .int .i64 o.f2] 142)).drewN n) := fun n => by
            rw [HLK.out n]; unfold doesV key1; simp only [Option.bind_some, if_neg k1, if_neg k2, if_pos k3]; rfl
          have hlk0 := hlk 0
          change (Instr.lookup _ _ _ _).run _ (wr.alloc _) = .ok _ (wr.alloc _) at hlk0
          have qd := run_do b 85
          have HST : Veil (stepO (runO vs (l.take k)) o = ((runO vs (l.take k)).1, sumO o (runO vs (l.take k)).2)) := ⟨by unfold stepO; rw [if_neg k1, if_neg k2, if_pos k3]⟩
          clear k1 k2 k3 hokk hwf HLK ho
          go_wp2_with (first | (go_at_call 85; go_must (refine (reckon_any _ w.heap.size b B d _ _ o HA1.out.solo).mono ?_; rintro e w7 ⟨rfl, hs, hu⟩; have HF : Veil (AlAt w w7 b (b + 1) B d (runO vs (l.take (k + 1)))) := ⟨by rw [HN.out, HST.out]; exact HA1.out.upd (y := ((runO vs (l.take k)).1, sumO o (runO vs (l.take k)).2)) hs hu⟩; clear hs hu)))
          exact ⟨⟨k + 1, by omega, by go_num, HF⟩, by simp [intOf]; omega⟩
        · skip
          have hlk : ∀ n, (Instr.lookup 140 (.map (some (b + 1))) (.int .i64 o.f0) false).run Try.prog ((wr.alloc (.cells #[.int .i64 o.f0, .int .i64 o.f1, .int .i64 o.f2] 142)).drewN n) = .ok .nilFunc ((wr.alloc (.cells #[.int .i64 o.f0, .int .i64 o.f1, .int .i64 o.f2] 142)).drewN n) := fun n => by
            rw [HLK.out n]; unfold doesV key1; simp only [Option.bind_some, if_neg k1, if_neg k2, if_neg k3]; rfl
          have hlk0 := hlk 0
          change (Instr.lookup _ _ _ _).run _ (wr.alloc _) = .ok _ (wr.alloc _) at hlk0
          have qd := run_dont
          have HST : Veil (stepO (runO vs (l.take k)) o = (runO vs (l.take k))) := ⟨by unfold stepO; rw [if_neg k1, if_neg k2, if_neg k3]⟩
          clear k1 k2 k3 hokk hwf HLK ho
          have HF : Veil (AlAt w (wr.alloc (.cells #[.int .i64 o.f0, .int .i64 o.f1, .int .i64 o.f2] 142)) b (b + 1) B d (runO vs (l.take (k + 1)))) := ⟨by rw [HN.out, HST.out]; exact HA1.out⟩
          go_wp2
          exact ⟨⟨k + 1, by omega, by go_num, HF⟩, by simp [intOf]; omega⟩
      · as_aux_lemma =>
        have d1 : decide ((k : Int) < (l.length : Int)) = false := decide_eq_false (by omega)
        have hkk : k = l.length := by omega
        subst hkk
        have d0 : decide (l.length < l.length) = false := decide_eq_false (by omega)
        have HQ : Veil (AlAt w wr b (b + 1) B d (aloneM l vs, (runO vs l).2)) := ⟨by have := HA.out; rw [List.take_length] at this; exact this⟩
        have c0 := HQ.out.solo.blk.cell 0 _ rfl
        clear HA hRL hll
        go_wp2
        go_ret2
        exact ⟨_, rfl, Kd.R_mono HQ.out.solo.row (fun _ _ => trivial), HQ.out.below⟩
end Go.Proofs.Ytjmnbbflahacoaa.Lang
