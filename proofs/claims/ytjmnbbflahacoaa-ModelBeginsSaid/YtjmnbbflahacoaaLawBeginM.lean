/- ModelBegins, plain: those that committed in a beginning are a beginning of those that committed. No condition. -/
import Derived.Test.YtjmnbbflahacoaaEnds
import Derived.Test.YtjmnbbflahacoaaBegins
import Derived.Test.YtjmnbbflahacoaaModelD
import Derived.Deep.RegionWith
import Derived.Deep.DeepCutAuto
import Derived.Test.YtjmnbbflahacoaaOpen
namespace Go.Proofs.Ytjmnbbflahacoaa.Model
open Go.RowKit Go.Proofs.Ytjmnbbflahacoaa.Mem Go.Proofs.Ytjmnbbflahacoaa.Hist Go.Proofs.Ytjmnbbflahacoaa.PHistTells Go.Proofs.YtjmnbbflahacoaaW.PrintWords
set_option linter.unusedVariables false
set_option linter.unusedSimpArgs false

/-- Committed just there? -/
def comAt (i : Nat) (t : Tr) : Bool := t.f7 && t.f5 == (i : Int)
theorem filter_set_no {α : Type} (p : α → Bool) : ∀ (l : List α) (k : Nat) (x y : α), l[k]? = some x → p x = false → p y = false → (l.set k y).filter p = l.filter p
  | [], k, x, y, h, _, _ => by simp at h
  | a :: l, 0, x, y, h, hx, hy => by
    simp only [List.getElem?_cons_zero, Option.some.injEq] at h
    subst h
    rw [List.set_cons_zero, List.filter_cons, List.filter_cons, hx, hy]
    rfl
  | a :: l, k + 1, x, y, h, hx, hy => by
    rw [List.set_cons_succ, List.filter_cons, List.filter_cons, filter_set_no p l k x y (by simpa using h) hx hy]
theorem step_com {ts ts' : List Tr} {m : Nat} {e : Ev} (h : stepM ts m e = some ts') (i : Nat) (hi : i < m) : ts'.filter (comAt i) = ts.filter (comAt i) := by
  unfold stepM at h
  split at h
  · split at h
    · cases h
    · injection h with h
      subst h
      rw [List.filter_append]
      have : [newTr (m : Int) e].filter (comAt i) = [] := by
        rw [List.filter_eq_nil_iff]
        intro t ht
        rw [List.mem_singleton] at ht
        subst ht
        simp [comAt, newTr]
      rw [this, List.append_nil]
  split at h
  · split at h
    · cases h
    · injection h with h
      subst h
      rfl
  split at h
  · rename_i k hk
    split at h
    · rename_i t ht
      split at h
      · rename_i hc
        rw [Option.map_eq_some_iff] at h
        obtain ⟨t', ht1, ht2⟩ := h
        subst ht2
        simp only [Bool.and_eq_true, decide_eq_true_eq, beq_iff_eq] at hc
        have h5 := hc.1.1
        refine filter_set_no _ ts k t t' ht ?_ ?_
        · unfold comAt
          rw [show (t.f5 == (i : Int)) = false by rw [beq_eq_false_iff_ne]; omega, Bool.and_false]
        · unfold comAt
          rw [show (t'.f5 == (i : Int)) = false by
            rw [beq_eq_false_iff_ne]
            rcases turn_ends ht1 with he | he
            · omega
            · omega, Bool.and_false]
      · cases h
    · cases h
  · cases h
theorem readFrom_com : ∀ (l : List Ev) (ts ts' : List Tr) (m : Nat), readFrom ts m l = some ts' → ∀ i, i < m → ts'.filter (comAt i) = ts.filter (comAt i)
  | [], ts, ts', m, h, i, _ => by
    injection h with h
    subst h
    rfl
  | e :: l, ts, ts', m, h, i, hi => by
    unfold readFrom at h
    rw [Option.bind_eq_some_iff] at h
    obtain ⟨t1, h1, h2⟩ := h
    rw [readFrom_com l t1 ts' (m + 1) h2 i (by omega), step_com h1 i hi]
theorem com_take {l : List Ev} (n : Nat) (hn : n ≤ l.length) (h : rightM l = true) (i : Nat) (hi : i < n) : (triesM l).filter (comAt i) = (triesM (l.take n)).filter (comAt i) := by
  unfold rightM at h
  unfold triesM
  unfold readM at *
  have h1 := readFrom_append (l.take n) (l.drop n) [] 0
  rw [List.take_append_drop] at h1
  cases hb : readFrom [] 0 (l.take n) with
  | none =>
    rw [hb] at h1
    rw [h1] at h
    cases h
  | some ts =>
    rw [hb] at h1
    simp only [Option.bind_some] at h1
    cases hl : readFrom ts (0 + (l.take n).length) (l.drop n) with
    | none =>
      rw [hl] at h1
      rw [h1] at h
      cases h
    | some ts' =>
      rw [hl] at h1
      rw [h1]
      exact readFrom_com _ _ _ _ hl i (by rw [List.length_take]; omega)
/-- Those that committed in a beginning. -/
theorem commits_begin {l : List Ev} (n : Nat) (hn : n ≤ l.length) (h : rightM l = true) : ∃ r, commitsM l = commitsM (l.take n) ++ r := by
  have e : commitsM (l.take n) = (List.range n).flatMap (fun i : Nat => (triesM l).filter (comAt i)) := by
    unfold commitsM
    rw [List.length_take, Nat.min_eq_left hn, List.flatMap_def, List.flatMap_def]
    congr 1
    apply List.map_congr_left
    intro i hi
    have hi' : i < n := by simpa using hi
    exact (com_take n hn h i hi').symm
  refine ⟨((List.range l.length).drop n).flatMap (fun i : Nat => (triesM l).filter (comAt i)), ?_⟩
  rw [e]
  have e2 : List.range n = (List.range l.length).take n := by
    rw [List.take_range, Nat.min_eq_left hn]
  rw [e2, ← List.flatMap_append, List.take_append_drop]
  rfl
end Go.Proofs.Ytjmnbbflahacoaa.Model
/- ModelBegins's walk: true for all values and every trace. No condition. -/
namespace Go.Proofs.Ytjmnbbflahacoaa.Model
open Go.RowKit Go.Proofs.Ytjmnbbflahacoaa.Mem Go.Proofs.Ytjmnbbflahacoaa.Hist Go.Proofs.Ytjmnbbflahacoaa.PHistTells Go.Proofs.YtjmnbbflahacoaaW.PrintWords
set_option linter.unusedVariables false
set_option linter.unusedSimpArgs false

set_option maxHeartbeats 4000000 in
set_option maxRecDepth 100000 in
theorem lstates_any (w : World) (A B : Option Addr) (c d : Nat) (ss : List (List Int)) (hC : kS.C w A ss.length ss) (hD : kS.C w B ss.length ss) (hl : ss.length ≤ 1000000) (ha : ∀ s ∈ ss, s.length ≤ 1000000) :
    Calls Try.prog 34 #[.slice A ss.length c, .slice B ss.length d] w fun e w' => e = .returned (.bool true) ∧ Below w.heap.size w w' := by
  have HC := Veil.mk hC
  have HD := Veil.mk hD
  have HL := Veil.mk hl
  have HA := Veil.mk ha
  clear hC hD hl ha
  go_enter Try.func34, Try.ntmps34
  go_wp2_with fail
  go_loopw [5] (fun v5 wr => ∃ k : Nat, k ≤ ss.length ∧ v5 = .int .i64 k ∧ Veil (Below w.heap.size w wr)) (fun v5 _ => ss.length - (intOf v5).toNat)
  case atStart => exact ⟨0, Nat.zero_le _, rfl, ⟨Below.refl _ _⟩⟩
  case round =>
    obtain ⟨k, hk, rfl, HB⟩ := hrel
    have hl := HL.out
    by_cases hlt : k < ss.length
    · have d1 : decide ((k : Int) < (ss.length : Int)) = true := decide_eq_true (by omega)
      have d2 : (k : Int) < (ss.length : Int) := by omega
      obtain ⟨ad, Ak, ck, rfl, p0, _, hp⟩ := sts_at (Kd.C_below HC.out HB.out) k hlt
      obtain ⟨be, Bk, ek, rfl, q0, _, hq⟩ := sts_at (Kd.C_below HD.out HB.out) k hlt
      have HLA := Veil.mk (HA.out ss[k] (List.getElem_mem hlt))
      obtain ⟨s, hs⟩ : ∃ s, ss[k] = s := ⟨_, rfl⟩
      rw [hs] at p0 q0 hp hq HLA
      have HP := Veil.mk (Kd.C_below hp ((Below.refl wr.heap.size wr).drew))
      have HQ := Veil.mk (Kd.C_below hq ((Below.refl wr.heap.size wr).drew))
      have HV : Veil (Calls Try.prog 31 #[.slice Ak s.length ck, .slice Bk s.length ek] wr.drew fun e w' => e = .returned (.bool true) ∧ Below wr.drew.heap.size wr.drew w') :=
        ⟨(vals_any wr.drew Ak Bk ck ek s s HP.out HQ.out HLA.out HLA.out).mono (fun e w' h => ⟨by rw [h.1]; simp, h.2⟩)⟩
      clear hs hp hq
      go_wp2_with fail
      go_cut [26] (fun s26 wx => s26 = .bool false ∧ Veil (Below wr.heap.size wr wx))
      case first =>
        go_region_with (go_at_call 31; refine HV.out.mono ?_; rintro ed w4 ⟨rfl, hb⟩)
        all_goals
          go_wp2_with fail
          go_meet
          case rel => exact ⟨rfl, ⟨((Below.refl _ _).drew).trans ‹_›⟩⟩
      case rest =>
        obtain ⟨rfl, HX⟩ := hcut
        have HB4 := Veil.mk (HB.out.trans (HX.out.mono HB.out.size))
        clear p0 q0
        go_wp2
        exact ⟨⟨k + 1, by omega, by go_num, HB4⟩, by simp [intOf]; omega⟩
    · have d1 : decide ((k : Int) < (ss.length : Int)) = false := decide_eq_false (by omega)
      go_wp2
      go_ret
      exact ⟨rfl, HB.out⟩

theorem stsM_length (first : List Int) (l : List Ev) : (stsM first l).length = (commitsM l).length + 1 := stsUpTo_length _ _ _
theorem stsM_each (first : List Int) (l : List Ev) : ∀ s ∈ stsM first l, s.length = first.length := by
  intro s hs
  unfold stsM stsUpTo at hs
  rcases List.mem_cons.1 hs with rfl | hs
  · rfl
  · obtain ⟨i, _, rfl⟩ := List.mem_map.1 hs
    exact foldM_length _ _
theorem commitsM_length (l : List Ev) (h : rightM l = true) : (commitsM l).length = beforeM l l.length := by
  obtain ⟨cs, hcs⟩ : ∃ cs, CommitsOf l cs := ⟨(ended l).mergeSort (fun a b => decide (a.f5 ≤ b.f5)), List.mergeSort_perm _ _, by
    have := List.pairwise_mergeSort (le := fun a b : Tr => decide (a.f5 ≤ b.f5)) (by intro a b c; simp; omega) (by intro a b; simp; omega) (ended l)
    exact this.imp (fun h => by simpa using h)⟩
  rw [← commits_is hcs, hcs.perm.length_eq]
  exact committed_count h
theorem sts_begin {l : List Ev} (first : List Int) (n : Nat) (hn : n ≤ l.length) (h : rightM l = true) : (stsM first (l.take n)).length ≤ (stsM first l).length ∧ (stsM first l).take (stsM first (l.take n)).length = stsM first (l.take n) := by
  obtain ⟨r, hr⟩ := commits_begin n hn h
  rw [stsM_length, stsM_length, hr, List.length_append]
  refine ⟨by omega, ?_⟩
  unfold stsM stsUpTo
  rw [List.take_succ_cons]
  congr 1
  rw [← List.map_take, List.take_range, hr, List.length_append, Nat.min_eq_left (by omega)]
  apply List.map_congr_left
  intro i hi
  have hi' : i < (commitsM (l.take n)).length := by simpa using hi
  rw [List.take_append_of_le_length (by omega)]

set_option maxHeartbeats 8000000 in
set_option maxRecDepth 100000 in
theorem modelBegins_any (w : World) (Av : Option Addr) (cv : Nat) (first : List Int) (A : Option Addr) (c : Nat) (l : List Ev) (k : Int) (hF : kI.C w Av first.length first) (hC : kEv.C w A l.length l) (hc : l.length ≤ c) (hok : ∀ e ∈ l, EvOk e) (hk0 : 0 ≤ k) (hk1 : k ≤ 255) :
    Calls Try.prog 10 #[.slice Av first.length cv, .slice A l.length c, .int .u8 k] w fun e w' => e = .returned (.bool true) ∧ Below w.heap.size w w' := by
  have HF := Veil.mk hF
  have HC := Veil.mk hC
  have HO := Veil.mk hok
  have HCC := Veil.mk hc
  clear hF hC hok
  by_cases h120 : 120 < l.length
  · have g0 : decide ((120 : Int) < (l.length : Int)) = true := decide_eq_true (by omega)
    clear h120 hc
    go_enter Try.func10, Try.ntmps10
    go_wp2_with (first | (go_at_call 29; refine (alive18_any _).mono ?_; rintro ed w1 ⟨rfl, hb⟩; have HB := Veil.mk hb; clear hb))
    go_ret
    exact ⟨rfl, HB.out⟩
  have g0 : decide ((120 : Int) < (l.length : Int)) = false := decide_eq_false (by omega)
  by_cases h20 : 20 < first.length
  · have g1 : decide ((20 : Int) < (first.length : Int)) = true := decide_eq_true (by omega)
    clear h120 hc h20
    go_enter Try.func10, Try.ntmps10
    go_wp2_with (first | (go_at_call 29; refine (alive18_any _).mono ?_; rintro ed w1 ⟨rfl, hb⟩; have HB := Veil.mk hb; clear hb))
    go_ret
    exact ⟨rfl, HB.out⟩
  have g1 : decide ((20 : Int) < (first.length : Int)) = false := decide_eq_false (by omega)
  have HL : Veil (l.length ≤ 1000000000) := ⟨by omega⟩
  have HL2 : Veil (l.length ≤ 1000000) := ⟨by omega⟩
  have HFL : Veil (first.length ≤ 1000000) := ⟨by omega⟩
  have hlb : l.length ≤ 120 := by omega
  clear h120 h20
  cases hr : rightM l with
  | false =>
    have HR := Veil.mk hr
    clear hr hc
    go_enter Try.func10, Try.ntmps10
    go_wp2_with (first | (go_at_call 29; refine (alive18_any _).mono ?_; rintro ed w1 ⟨rfl, hb⟩; have HB := Veil.mk hb; clear hb) | (go_at_call 20; refine (right_any _ A c l (Kd.C_below HC.out HB.out) HL.out HO.out).mono ?_; rintro ed w2 ⟨rfl, hb⟩; rw [HR.out]; have HB2 := Veil.mk (below_of HB.out hb); clear hb))
    go_ret
    exact ⟨rfl, HB2.out⟩
  | true =>
    have HR := Veil.mk hr
    obtain ⟨j, hj⟩ : ∃ j : Nat, k.tmod ((l.length : Int) + 1) = (j : Int) := ⟨(k.tmod ((l.length : Int) + 1)).toNat, by rw [Int.toNat_of_nonneg (Int.tmod_nonneg _ hk0)]⟩
    have hjl : j ≤ l.length := by
      have := Int.tmod_lt_of_pos k (show (0 : Int) < (l.length : Int) + 1 by omega)
      omega
    have hcut := cut_to (P := Try.prog) 22 31 .i64 Try.underlying22 (info_parts info31).choose_spec.1 A l.length c (j : Int) (by omega) (by omega) hc
    rw [Int.toNat_natCast] at hcut
    have HSB := Veil.mk (sts_begin first j hjl hr)
    have HCN := Veil.mk (commitsM_length l hr)
    have HSL := Veil.mk (stsM_length first l)
    obtain ⟨b, hbl⟩ : ∃ b, l.take j = b := ⟨_, rfl⟩
    have hblen : b.length = j := by rw [← hbl, List.length_take]; omega
    have HBC : Veil (∀ w', Below w.heap.size w w' → kEv.C w' A j b) := ⟨fun w' hw => by
      have := Kd.C_take (m := j) (Kd.C_below HC.out hw) (by omega)
      rw [hbl, hblen] at this
      exact this⟩
    rw [hbl] at HSB
    have HBO : Veil (∀ e ∈ b, EvOk e) := ⟨fun e he => HO.out e (by rw [← hbl] at he; exact List.mem_of_mem_take he)⟩
    subst hblen
    have hw1 : IntKind.i64.wrap ((l.length : Int) + 1) = (l.length : Int) + 1 := IntWalk.i64_in _ (by omega)
    have hjb : (b.length : Int) ≤ 120 := by omega
    have HBL : Veil (b.length ≤ 1000000) := ⟨by omega⟩
    have hle := HSB.out.1
    have hbm : beforeM l l.length ≤ 120 := by
      unfold beforeM
      exact Nat.le_trans List.countP_le_length (by rw [List.length_take]; omega)
    obtain ⟨sa, hsa⟩ : ∃ sa, stsM first b = sa := ⟨_, rfl⟩
    obtain ⟨sb, hsb⟩ : ∃ sb, stsM first l = sb := ⟨_, rfl⟩
    have HSE : Veil (∀ s ∈ sa, s.length ≤ 1000000) := ⟨fun s hs => by rw [← hsa] at hs; rw [stsM_each first b s hs]; exact HFL.out⟩
    rw [hsa, hsb] at HSB hle
    rw [hsb, HCN.out] at HSL
    have HSA := Veil.mk hsa
    have HSBB := Veil.mk hsb
    have hsl := HSL.out
    have HSAL : Veil (sa.length ≤ 1000000) := ⟨by omega⟩
    clear hr hc hbl hjl hsa hsb
    go_enter Try.func10, Try.ntmps10
    go_wp2_with (first | (go_at_call 29; refine (alive18_any _).mono ?_; rintro ed w1 ⟨rfl, hb⟩; have HB := Veil.mk hb; clear hb) | (go_at_call 20; refine (right_any _ A c l (Kd.C_below HC.out HB.out) HL.out HO.out).mono ?_; rintro ed w2 ⟨rfl, hb⟩; rw [HR.out]; have HB2 := Veil.mk (below_of HB.out hb); clear hb) | (go_at_call 33; with_reducible refine (states_any _ A c b Av cv first (HBC.out _ HB2.out) HBL.out HBO.out (Kd.C_below HF.out HB2.out) HFL.out (fun t ht => Nat.le_trans (commitsM_acc b t ht) HBL.out)).mono ?_; go_must (rintro ed w3 ⟨v, rfl, hv, hb⟩; rw [HSA.out] at hv; have HB3 := Veil.mk (below_of HB2.out hb); have hvr := Kd.R_reads hv; obtain ⟨A1, c1, rfl, _, hT⟩ := hvr; have HT := Veil.mk hT; clear hv hb hT)) | (go_at_call 33; with_reducible refine (states_any _ A c l Av cv first (Kd.C_below HC.out HB3.out) HL2.out HO.out (Kd.C_below HF.out HB3.out) HFL.out (fun t ht => Nat.le_trans (commitsM_acc l t ht) HL2.out)).mono ?_; go_must (rintro ed w4 ⟨v, rfl, hv, hb⟩; rw [HSBB.out] at hv; have HB4 := Veil.mk (below_of HB3.out hb); have HT4 := Veil.mk (Kd.C_below HT.out hb); have hvr := Kd.R_reads hv; obtain ⟨A2, c2, rfl, hc2, hT⟩ := hvr; have HU := Veil.mk (Kd.C_take (m := sa.length) hT HSB.out.1); have hcut2 := cut_to (P := Try.prog) 51 47 .i64 Try.underlying51 (info_parts infoS).choose_spec.1 A2 sb.length c2 (sa.length : Int) (by omega) (by omega) hc2; rw [Int.toNat_natCast] at hcut2; clear hv hb hT)) | (go_at_call 34; go_must (refine (lstates_any _ A1 A2 c1 c2 sa HT4.out (by have h := HU.out; rwa [HSB.out.2] at h) HSAL.out HSE.out).mono ?_; rintro ed w5 ⟨rfl, hb⟩; have HB5 := Veil.mk (below_of HB4.out hb); clear hb)) | (go_at_call 23; go_must (refine (before_any _ A c l (l.length : Int) (Kd.C_below HC.out HB5.out) HCC.out HL.out).mono ?_; rintro ed w6 ⟨rfl, hb⟩; have HB6 := Veil.mk (below_of HB5.out hb); clear hb)))
    go_ret
    exact ⟨by first | rfl | simp, HB6.out⟩
end Go.Proofs.Ytjmnbbflahacoaa.Model
/- ModelBegins: the call, for whatever reads as its arguments, returns true. No condition. -/
namespace Go.Proofs.Ytjmnbbflahacoaa.Model
open Go.ChangeShapes Go.WideShapes Go.ChangeAt Go.RowKit Go.Proofs.Ytjmnbbflahacoaa.Kit Go.Proofs.Ytjmnbbflahacoaa.Hist Go.Proofs.YtjmnbbflahacoaaW.PrintWords
set_option linter.unusedVariables false

theorem u8_bound {a : Int} (h : (Lit.int .u8 a).wf = true) : 0 ≤ a ∧ a ≤ 255 := by
  simp only [Lit.wf, Bool.and_eq_true, decide_eq_true_eq] at h
  exact ⟨h.1, h.2⟩
set_option maxRecDepth 100000 in
theorem walk_modelBegins {H : Type} {enc : TypeId × Value → H} (W : World) (base : Nat) {v0 v1 v2 : Value} {d0 d1 d2 : DataW H} {p0 p1 p2 : List MemPlace}
    (k0 : Value.okWide Try.prog W .any base 47 v0) (h0 : DataW.Trod enc Try.prog W 0 (fun _ => true) true 47 v0 d0 p0)
    (k1 : Value.okWide Try.prog W .any base 22 v1) (h1 : DataW.Trod enc Try.prog W 0 (fun _ => true) true 22 v1 d1 p1)
    (k2 : Value.okWide Try.prog W .any base 5 v2) (h2 : DataW.Trod enc Try.prog W 0 (fun _ => true) true 5 v2 d2 p2) :
    Calls Try.prog 10 #[v0, v1, v2] W fun e W' => e = .returned (.bool true) ∧ Below W.heap.size W W' := by
  obtain ⟨Av, cv, xs, rfl, _, hF⟩ := open_kd Try.underlying47 (by kernel_rfl) (opens_int Try.underlying2) k0 h0
  obtain ⟨A, c, l, rfl, hl, hC, hok⟩ := open_evs k1 h1
  obtain ⟨a1, rfl, rfl, rfl, w1⟩ := open_int Try.underlying5 k2 h2
  exact modelBegins_any W Av cv xs A c l a1 hF hC hl hok (u8_bound w1).1 (u8_bound w1).2
end Go.Proofs.Ytjmnbbflahacoaa.Model
