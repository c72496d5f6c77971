/- hist, tenth part: the iterator over the tries that are asked for. No condition. -/
import Derived.Test.YtjmnbbflahacoaaHistI
import Derived.Test.YtjmnbbflahacoaaSeq
import Derived.Shelf.Abstract
import Derived.Shelf.RegionOpen
import Derived.OwnWalkIn
import Derived.TacticsInMore
import Derived.LoopNIn
import Derived.LoopIn
namespace Go.Proofs.Ytjmnbbflahacoaa.Hist
open Go.RowKit Go.ChangeMaps Go.Maps Go.Proofs.Ytjmnbbflahacoaa.Mem Go.Proofs.Ytjmnbbflahacoaa.PHistTells Go.Proofs.YtjmnbbflahacoaaW.PrintWords
set_option linter.unusedVariables false
set_option linter.unusedSimpArgs false
attribute [local go_sem] Oper.semAt_some

/-- The block of the row that the cell B holds. -/
def outRow (W : World) (B : Nat) : Option Nat := (W.cell? ⟨B, 0, none⟩).bind Value.ownBlock
/-- What a round keeps: all cells but B's, and but those of the row that B holds. -/
structure Keeps (B : Nat) (W W' : World) : Prop where
  cells : ∀ k T, Typed W k T → k ≠ B → outRow W B ≠ some k → W'.heap[k]? = W.heap[k]?
  row : ∀ k, outRow W' B = some k → outRow W B = some k ∨ W.heap.size ≤ k
  size : W.heap.size ≤ W'.heap.size
/-- All cells of w but B's lie as they lay. -/
def Still (B : Nat) (w W : World) : Prop := ∀ k T, Typed w k T → k ≠ B → W.heap[k]? = w.heap[k]?
theorem typed_lt {w : World} {k T : Nat} (h : Typed w k T) : k < w.heap.size := by
  obtain ⟨c, h⟩ := h
  exact (Array.getElem?_eq_some_iff.1 h).1
theorem Still.typed {B : Nat} {w W : World} (h : Still B w W) {k T : Nat} (hk : Typed w k T) (hn : k ≠ B) : Typed W k T := by
  obtain ⟨c, hc⟩ := hk
  exact ⟨c, (h k T ⟨c, hc⟩ hn).trans hc⟩
theorem Still.refl (B : Nat) (w : World) : Still B w w := fun _ _ _ _ => rfl
theorem Still.below {B : Nat} {w W W' : World} (h : Still B w W) (hs : w.heap.size ≤ W.heap.size) (hb : Below W.heap.size W W') : Still B w W' := fun k T hk hn =>
  (hb.block k (Nat.lt_of_lt_of_le (typed_lt hk) hs)).trans (h k T hk hn)
theorem Still.keeps {B : Nat} {w W W' : World} (h : Still B w W) (hk : Keeps B W W') (ho : ∀ k, outRow W B = some k → w.heap.size ≤ k) : Still B w W' := fun k T hty hn =>
  (hk.cells k T (h.typed hty hn) hn (fun he => by have := ho k he; have := typed_lt hty; omega)).trans (h k T hty hn)
theorem Still.cell {B b T : Nat} {w W : World} {o : Nat} {v : Value} (h : Still B w W) (hty : Typed w b T) (hn : b ≠ B) (hv : w.cell? ⟨b, o, none⟩ = some v) : W.cell? ⟨b, o, none⟩ = some v :=
  (World.cell?_of_block (w := w) (h b T hty hn)).trans hv
theorem outRow_below {B : Nat} {W W' : World} (hB : B < W.heap.size) (hb : Below W.heap.size W W') : outRow W' B = outRow W B := by
  unfold outRow
  rw [hb.cell (p := ⟨B, 0, none⟩) hB]

/-- The tries of a book lie, all of them in blocks from base on and below hi. -/
structure TriesAt (w : World) (base hi : Nat) (bs : List Nat) (ro : Nat → Value) (ts : List Tr) (rv : Value) : Prop where
  row : kPtr.R 85 w base (fun _ => True) rv bs
  len : bs.length = ts.length
  tries : ∀ (k : Nat) (b : Nat) (t : Tr), bs[k]? = some b → ts[k]? = some t → TryAt w base b t (ro b)
  hi1 : ∀ k, rv.ownBlock = some k → k < hi
  hi2 : ∀ b, b ∈ bs → b < hi ∧ ∀ k, (ro b).ownBlock = some k → k < hi
theorem BookAt.some {w : World} {base bb : Nat} {bs : List Nat} {ro : Nat → Value} {ts : List Tr} {rv : Value} {ml mc : Nat} (h : BookAt w base bb bs ro ts rv ml mc) : TriesAt w base w.heap.size bs ro ts rv :=
  ⟨h.row, h.len, h.tries, fun k hk => by obtain ⟨inner, ho⟩ := Kd.R_own h.row; exact own_lt ho k hk, fun b hb => by
    obtain ⟨k, hk⟩ := List.getElem?_of_mem hb
    have hlt : k < ts.length := by rw [← h.len]; exact (List.getElem?_eq_some_iff.1 hk).1
    have := h.tries k b _ hk (List.getElem?_eq_getElem hlt)
    exact ⟨this.blk.lt, fun j hj => row_lt this hj⟩⟩
theorem TriesAt.move {w w' : World} {base hi : Nat} {bs : List Nat} {ro : Nat → Value} {ts : List Tr} {rv : Value} (h : TriesAt w base hi bs ro ts rv) (hm : ∀ k T, Typed w k T → base ≤ k → k < hi → w'.heap[k]? = w.heap[k]?) : TriesAt w' base hi bs ro ts rv := by
  refine ⟨?_, h.len, fun k b t hb ht => ?_, h.hi1, h.hi2⟩
  · obtain ⟨inner, ho⟩ := Kd.R_own h.row
    exact Kd.R_mono (Kd.R_step (Kd.R_tight (by rfl) h.row) (fun k hk _ => hm k _ (row_typed h.row hk.symm) (own_base ho k hk.symm) (h.hi1 k hk.symm))) (fun _ _ => trivial)
  · have hT := h.tries k b t hb ht
    have hh := h.hi2 b (List.mem_of_getElem? hb)
    refine ⟨(hm b _ (blk_typed hT.blk) hT.low hh.1).trans hT.blk, hT.low, ?_⟩
    obtain ⟨inner, ho⟩ := Kd.R_own hT.acc
    exact Kd.R_mono (Kd.R_step (Kd.R_tight (by rfl) hT.acc) (fun k hk _ => hm k _ (row_typed hT.acc hk.symm) (own_base ho k hk.symm) (hh.2 k hk.symm))) (fun _ _ => trivial)
theorem TriesAt.below {w w' : World} {base hi : Nat} {bs : List Nat} {ro : Nat → Value} {ts : List Tr} {rv : Value} (h : TriesAt w base hi bs ro ts rv) (hb : Below w.heap.size w w') : TriesAt w' base hi bs ro ts rv :=
  h.move (fun k T hk _ _ => hb.block k (typed_lt hk))
theorem TriesAt.keeps {B : Nat} {w w' : World} {base hi : Nat} {bs : List Nat} {ro : Nat → Value} {ts : List Tr} {rv : Value} (h : TriesAt w base hi bs ro ts rv) (hk : Keeps B w w') (hB : B < base) (ho : ∀ k, outRow w B = some k → hi ≤ k) : TriesAt w' base hi bs ro ts rv :=
  h.move (fun k T hty h1 h2 => hk.cells k T hty (by omega) (fun he => by have := ho k he; omega))

/-- A pointer of the row. -/
theorem TriesAt.get {w : World} {base hi : Nat} {bs : List Nat} {ro : Nat → Value} {ts : List Tr} {rv : Value} (h : TriesAt w base hi bs ro ts rv) {A : Option Addr} {c : Nat} (hv : rv = .slice A ts.length c) (k : Nat) (hk : k < ts.length) :
    ∃ g b, A = some ⟨g, 0, none⟩ ∧ w.cell? ⟨g, k, none⟩ = some (.pointer (some ⟨b, 0, none⟩)) ∧ TryAt w base b ts[k] (ro b) := by
  subst hv
  have hkb : k < bs.length := by rw [h.len]; exact hk
  obtain ⟨g, cap, he, _⟩ := Kd.R_form h.row (by omega)
  injection he with he _ _
  subst he
  obtain ⟨cs, hcl, hM, hcc, hfr⟩ := Kd.R_elem h.row 0 (k : Int) (by omega) (by omega)
  simp only [Int.toNat_natCast, List.getD_eq_getElem?_getD, List.getElem?_eq_getElem hkb, Option.getD_some] at hM hcc
  have hM' : cs = [.pointer (some ⟨bs[k], 0, none⟩)] := hM
  subst hM'
  refine ⟨g, bs[k], rfl, ?_, h.tries k _ _ (List.getElem?_eq_getElem hkb) (List.getElem?_eq_getElem hk)⟩
  have := hcc 0 _ rfl
  simpa [kPtr, Kd.scalar] using this

theorem readFrom_length : ∀ (l : List Ev) (ts ts' : List Tr) (i : Nat), readFrom ts i l = some ts' → ts'.length ≤ ts.length + l.length
  | [], ts, ts', i, h => by
    injection h with h
    subst h
    simp
  | e :: l, ts, ts', i, h => by
    unfold readFrom at h
    rw [Option.bind_eq_some_iff] at h
    obtain ⟨t1, h1, h2⟩ := h
    have hb : t1.length ≤ ts.length + 1 := by
      unfold stepM at h1
      split at h1
      · split at h1
        · cases h1
        · injection h1 with h1; subst h1; simp
      split at h1
      · split at h1
        · cases h1
        · injection h1 with h1; subst h1; omega
      split at h1
      · split at h1
        · split at h1
          · rw [Option.map_eq_some_iff] at h1
            obtain ⟨t', _, h1⟩ := h1
            subst h1; simp
          · cases h1
        · cases h1
      · cases h1
    have := readFrom_length l t1 ts' (i + 1) h2
    simp only [List.length_cons]
    omega
theorem readM_length {l : List Ev} {ts : List Tr} (h : readM l = some ts) : ts.length ≤ l.length := by
  have := readFrom_length l [] ts 0 h
  simpa using this
theorem TryAt.cells {w : World} {base b : Nat} {t : Tr} {row : Value} (h : TryAt w base b t row) : w.cell? ⟨b, 0, none⟩ = some (.int .i64 t.f0) ∧ w.cell? ⟨b, 1, none⟩ = some (.int .i64 t.f1) ∧ w.cell? ⟨b, 2, none⟩ = some (.int .i64 t.f2) ∧ w.cell? ⟨b, 3, none⟩ = some (.int .i64 t.f3) ∧
    w.cell? ⟨b, 4, none⟩ = some (.int .i64 t.f4) ∧ w.cell? ⟨b, 5, none⟩ = some (.int .i64 t.f5) ∧ w.cell? ⟨b, 6, none⟩ = some (.int .i64 t.f6) ∧ w.cell? ⟨b, 7, none⟩ = some (.bool t.f7) ∧ w.cell? ⟨b, 8, none⟩ = some row :=
  ⟨h.blk.cell 0 _ rfl, h.blk.cell 1 _ rfl, h.blk.cell 2 _ rfl, h.blk.cell 3 _ rfl, h.blk.cell 4 _ rfl, h.blk.cell 5 _ rfl, h.blk.cell 6 _ rfl, h.blk.cell 7 _ rfl, h.blk.cell 8 _ rfl⟩
theorem none_fn : ∀ f : FuncId, (none : Option FuncId) = some f → Fence.wide.fn f := fun _ _ => trivial
theorem wide_ok {n : Nat} : Fence.wide.depth.isSome = true → 1 ≤ n := fun h => by cases h

set_option maxHeartbeats 1600000 in
set_option maxRecDepth 100000 in
theorem those1_any (n : Nat) (w : World) (A : Option Addr) (c : Nat) (l : List Ev) (hC : kEv.C w A l.length l) (hl : l.length ≤ 1000000000) (hok : ∀ e ∈ l, EvOk e) (L B bl ba Tl Ta askf : Nat) (askl : Array Value) (ask : Tr → Bool)
    (hB : B < w.heap.size) (hbl : bl ≠ B) (hba : ba ≠ B) (tl : Typed w bl Tl) (ta : Typed w ba Ta) (cl : w.cell? ⟨bl, 0, none⟩ = some (.slice A l.length c)) (ca : w.cell? ⟨ba, 0, none⟩ = some (.func (.func askf) #[] askl)) (hout : outRow w B = none)
    (heg : ∀ args w, (callFunc askf args).run Try.prog w = .ok (.enter askf args) w)
    (hask : ∀ W b t row, Still B w W → TryAt W w.heap.size b t row → Calls Try.prog askf (#[.pointer (some ⟨b, 0, none⟩)] ++ askl) W (fun e W' => e = .returned (.bool (ask t)) ∧ Below W.heap.size W W'))
    (J : List (Tr × Value) → World → Prop) (hab : ∀ pre W W', J pre W → Below W.heap.size W W' → J pre W')
    (hround : ∀ pre (x : Tr × Value) W, pre.length ≤ l.length → J pre W → kAcc.R 33 W w.heap.size (fun _ => True) x.2 x.1.f8 → YieldAt Fence.wide (n - 1) Try.prog L #[.agg (trC x.1 x.2).toArray] W (fun e W' => e = .returned (.bool true) ∧ (J (pre ++ [x]) W' ∧ Keeps B W W')))
    (h0 : J [] w) :
    CallsIn Fence.wide n Try.prog 94 #[.func (.yield L) #[] #[], .pointer (some ⟨bl, 0, none⟩), .pointer (some ⟨ba, 0, none⟩)] w
      fun e W' => (∃ v, e = .returned v) ∧ ∃ xs, xs.map (·.1) = ((readM l).getD []).filter ask ∧ J xs W' := by
  have HR := Veil.mk (read_any w A c l hC hl hok)
  have HJ := Veil.mk h0
  have HLL := Veil.mk hl
  have HAB := Veil.mk hab
  have HRO := Veil.mk hround
  have HAS := Veil.mk hask
  have HX := Veil.mk (And.intro hB (And.intro hbl (And.intro hba (And.intro tl (And.intro ta (And.intro ca hout))))))
  clear hC hl hok hab hround hask h0 hB hbl hba tl ta hout
  refine callsIn_of_wp Try.func94 rfl trivial ?_ rfl
  simp only [Try.ntmps94, List.size_toArray, List.length_cons, List.length_nil, Nat.reduceAdd, Nat.reduceSub, Array.replicate_succ, Array.replicate_zero, List.push_toArray, List.append_toArray, List.nil_append, List.cons_append]
  cases hrm : readM l with
  | none =>
    have hp : Veil (∀ ed w', ReadPost w l ed w' → ed = .returned (.tuple #[.pointer none, .bool false]) ∧ Below w.heap.size w w') := ⟨fun ed w' h => by unfold ReadPost at h; rw [hrm] at h; exact ⟨h.2, h.1⟩⟩
    clear hrm
    gi_wp2_with (refine ⟨trivial, wide_ok, ?_⟩; gi_at_call 50; refine ((callsIn_wide (n := n - 1)).2 HR.out).mono ?_; intro ed w2 h; have h' := hp.out ed w2 h; obtain ⟨rfl, hb⟩ := h'; have HB2 := Veil.mk hb; clear h hb)
    (try simp only [Exit.inBlock, Exit.then])
    refine bodyPost_ret (results_none rfl _ _ _) rfl ?_
    exact ⟨⟨_, rfl⟩, [], rfl, HAB.out _ _ _ HJ.out HB2.out⟩
  | some ts =>
    have hp : Veil (∀ ed w', ReadPost w l ed w' → ed = .returned (.tuple #[.pointer (some ⟨w.heap.size + 1 + 1, 0, none⟩), .bool true]) ∧ Below w.heap.size w w' ∧ ∃ A' c' bs ro, w'.cell? ⟨w.heap.size + 1 + 1, 0, none⟩ = some (.slice A' ts.length c') ∧ TriesAt w' w.heap.size w'.heap.size bs ro ts (.slice A' ts.length c')) := ⟨fun ed w' h => by
      unfold ReadPost at h
      rw [hrm] at h
      obtain ⟨hb, he, bs, ro, rv, hB⟩ := h
      obtain ⟨A', c', rfl, _, _⟩ := Kd.R_reads hB.row
      have h0 := hB.blk.cell 0 _ rfl
      have h1 := hB.some
      rw [hB.len] at h0 h1
      exact ⟨he, hb, A', c', bs, ro, h0, h1⟩⟩
    have hlen := readM_length hrm
    have HLN := Veil.mk hlen
    clear hrm hlen
    gi_wp2_with (refine ⟨trivial, wide_ok, ?_⟩; gi_at_call 50; refine ((callsIn_wide (n := n - 1)).2 HR.out).mono ?_; intro ed w2 h; have h' := hp.out ed w2 h; obtain ⟨rfl, hb, A', c', bs, ro, b0, hT⟩ := h'; have HB2 := Veil.mk hb; have HT := Veil.mk hT; clear h hb hT)
    have HJ2 := Veil.mk (HAB.out _ _ _ HJ.out HB2.out)
    have HS2 := Veil.mk ((Still.refl B w).below (Nat.le_refl _) HB2.out)
    have HO2 : Veil (∀ j, outRow w2 B = some j → w2.heap.size ≤ j) := ⟨fun j hj => by rw [outRow_below HX.out.1 HB2.out, HX.out.2.2.2.2.2.2] at hj; cases hj⟩
    clear HJ b0 HR hp ca cl
    gi_loopw [7, 20] (fun v7 v20 wr => ∃ (k : Nat) (pre : List (Tr × Value)), k ≤ ts.length ∧ v20 = .int .i64 k ∧ Veil (pre.map (·.1) = (ts.take k).filter ask) ∧ Veil (J pre wr) ∧ Veil (TriesAt wr w.heap.size w2.heap.size bs ro ts (.slice A' ts.length c')) ∧ Veil (Still B w wr) ∧ Veil (∀ j, outRow wr B = some j → w2.heap.size ≤ j) ∧ Veil (w2.heap.size ≤ wr.heap.size)) (fun _ v20 _ => ts.length - (intOf v20).toNat)
    case atStart => exact ⟨0, [], Nat.zero_le _, rfl, ⟨rfl⟩, HJ2, HT, HS2, HO2, ⟨Nat.le_refl _⟩⟩
    case round =>
      obtain ⟨k, pre, hk, rfl, HP, HJk, HTk, HSk, HOk, HZk⟩ := hrel
      have hm := HLN.out
      have hm2 := HLL.out
      by_cases hlt : k < ts.length
      · obtain ⟨g, b, rfl, hg, hTr⟩ := HTk.out.get rfl k hlt
        have hlti : decide ((k : Int) < (ts.length : Int)) = true := decide_eq_true (by omega)
        have ca := HSk.out.cell HX.out.2.2.2.2.1 HX.out.2.2.1 HX.out.2.2.2.2.2.1
        have HTr := Veil.mk hTr
        clear hTr
        cases hak : ask ts[k] with
        | false =>
          have HAK := Veil.mk hak
          clear hak
          gi_wp2_with (first | (refine ⟨trivial, wide_ok, ?_⟩; with_reducible refine ((callsIn_wide (n := n - 1)).2 (HAS.out wr b ts[k] (ro b) HSk.out HTr.out)).mono ?_; rintro e w3 ⟨rfl, hb3⟩; rw [HAK.out]; have HB3 := Veil.mk hb3; clear hb3) | (with_reducible refine And.intro none_fn ?_))
          go_roundw
          case rel => exact ⟨k + 1, pre, by omega, by go_num, ⟨by rw [HP.out, List.take_succ_eq_append_getElem hlt, List.filter_append, List.filter_cons, HAK.out]; simp⟩, ⟨HAB.out _ _ _ HJk.out HB3.out⟩, ⟨HTk.out.below HB3.out⟩, ⟨HSk.out.below (Nat.le_trans HB2.out.size HZk.out) HB3.out⟩,
            ⟨fun j hj => HOk.out j (by rwa [outRow_below (Nat.lt_of_lt_of_le HX.out.1 (Nat.le_trans HB2.out.size HZk.out)) HB3.out] at hj)⟩, ⟨Nat.le_trans HZk.out HB3.out.size⟩⟩
          case measure => simp [intOf]; omega
        | true =>
          have HAK := Veil.mk hak
          clear hak
          have HPL : Veil (pre.length ≤ l.length) := ⟨by
            have h1 := congrArg List.length HP.out
            rw [List.length_map] at h1
            have h2 := List.length_filter_le ask (ts.take k)
            rw [List.length_take] at h2
            omega⟩
          gi_wp2_with (first | (refine ⟨trivial, wide_ok, ?_⟩; with_reducible refine ((callsIn_wide (n := n - 1)).2 (HAS.out wr b ts[k] (ro b) HSk.out HTr.out)).mono ?_; go_must (rintro e w3 ⟨rfl, hb3⟩; rw [HAK.out]; have HB3 := Veil.mk hb3; clear hb3; have HT3 := Veil.mk (HTr.out.below HB3.out); have HJ3 := Veil.mk (HAB.out _ _ _ HJk.out HB3.out); have hcc := HT3.out.cells; obtain ⟨q0, q1, q2, q3, q4, q5, q6, q7, q8⟩ := hcc; have hyr := HRO.out pre (ts[k], ro b) w3 HPL.out HJ3.out HT3.out.acc; unfold YieldAt at hyr; obtain ⟨fn, tmps, assign, body, hy, hR⟩ := hyr; dsimp only [trC] at hy; have HRR := Veil.mk hR; clear hR)))
          refine ⟨wide_ok, HRR.out.mono ?_⟩
          rintro e w4 ⟨rfl, hJ4, hK4⟩
          have HJ4 := Veil.mk hJ4
          have HK4 := Veil.mk hK4
          have HO3 : Veil (∀ j, outRow w3 B = some j → w2.heap.size ≤ j) := ⟨fun j hj => HOk.out j (by rwa [outRow_below (Nat.lt_of_lt_of_le HX.out.1 (Nat.le_trans HB2.out.size HZk.out)) HB3.out] at hj)⟩
          clear hJ4 hK4 hy
          gi_wp2
          go_roundw
          case rel => exact ⟨k + 1, pre ++ [(ts[k], ro b)], by omega, by go_num, ⟨by rw [List.map_append, HP.out, List.take_succ_eq_append_getElem hlt, List.filter_append, List.filter_cons, HAK.out]; simp⟩, HJ4, ⟨(HTk.out.below HB3.out).keeps HK4.out HX.out.1 HO3.out⟩,
            ⟨(HSk.out.below (Nat.le_trans HB2.out.size HZk.out) HB3.out).keeps HK4.out (fun j hj => Nat.le_trans HB2.out.size (HO3.out j hj))⟩,
            ⟨fun j hj => by
              rcases HK4.out.row j hj with h | h
              · exact HO3.out j h
              · exact Nat.le_trans (Nat.le_trans HZk.out HB3.out.size) h⟩, ⟨Nat.le_trans HZk.out (Nat.le_trans HB3.out.size HK4.out.size)⟩⟩
          case measure => simp [intOf]; omega
      · have hkl : k = ts.length := by omega
        have hlti : decide ((k : Int) < (ts.length : Int)) = false := decide_eq_false (by omega)
        have HF : Veil (pre.map (·.1) = ts.filter ask) := ⟨by have := HP.out; rwa [hkl, List.take_length] at this⟩
        clear hkl
        gi_wp2
        (try simp only [Exit.inBlock, Exit.then])
        go_end0
        exact ⟨⟨_, rfl⟩, pre, HF.out, HJk.out⟩
end Go.Proofs.Ytjmnbbflahacoaa.Hist
