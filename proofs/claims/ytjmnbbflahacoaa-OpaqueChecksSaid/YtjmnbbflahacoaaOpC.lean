/- opaque: Order, walked. No condition. -/
import Derived.Test.YtjmnbbflahacoaaOpB
import Derived.Test.YtjmnbbflahacoaaHeapX
namespace Go.Proofs.Ytjmnbbflahacoaa.Opq
open Go.RowKit Go.Proofs.Ytjmnbbflahacoaa.Mem Go.Proofs.Ytjmnbbflahacoaa.Hist Go.Proofs.Ytjmnbbflahacoaa.Model Go.Proofs.Ytjmnbbflahacoaa.PHistTells Go.Proofs.YtjmnbbflahacoaaW.PrintWords
set_option linter.unusedVariables false
set_option linter.unusedSimpArgs false

/-- A try's rank, and its number. -/
def rankM (first : List Int) (l : List Ev) (i : Nat) : Th := match (triesM l)[i]? with
  | some t => (2 * seenI (stsM first l) l t + (if t.f7 then 1 else 0), (i : Int))
  | none => (0, (i : Int))
def ranksM (first : List Int) (l : List Ev) (n : Nat) : List Th := (List.range n).map (rankM first l)
theorem ranksM_next (first : List Int) (l : List Ev) (n : Nat) : ranksM first l (n + 1) = ranksM first l n ++ [rankM first l n] := by
  unfold ranksM
  rw [List.range_succ, List.map_append]
  rfl
/-- The things, in their order. -/
structure OrderOf (first : List Int) (l : List Ev) (ts : List Th) : Prop where
  perm : ts.Perm (ranksM first l (triesM l).length)
  sorted : ts.Pairwise leT
/-- What Order's second loop has done. -/
structure Popping (first : List Int) (l : List Ev) (out hs : List Th) : Prop where
  perm : (out ++ hs).Perm (ranksM first l (triesM l).length)
  sorted : out.Pairwise leT
  least : ∀ x ∈ out, ∀ y ∈ hs, leT x y
  heap : HeapL hs
theorem Popping.next {first : List Int} {l : List Ev} {out hs ys : List Th} {z : Th} (h : Popping first l out hs) (hp : Popped hs z ys) : Popping first l (out ++ [z]) ys := by
  refine ⟨?_, ?_, ?_, hp.heap⟩
  · rw [List.append_assoc, List.singleton_append]
    exact (List.Perm.append_left out hp.perm).trans h.perm
  · rw [List.pairwise_append]
    exact ⟨h.sorted, List.pairwise_singleton _ _, fun a ha b hb => by
      rw [List.mem_singleton] at hb
      subst hb
      exact h.least a ha _ (hp.perm.mem_iff.1 List.mem_cons_self)⟩
  · intro x hx y hy
    rw [List.mem_append, List.mem_singleton] at hx
    rcases hx with hx | rfl
    · exact h.least x hx y (hp.perm.mem_iff.1 (List.mem_cons_of_mem _ hy))
    · exact hp.least y hy
theorem seenFrom_lt (ss : List (List Int)) (acc : List Acc) : ∀ (n p q : Nat), seenFrom ss acc n p = some q → p ≤ q ∧ q < p + n
  | 0, p, q, h => by cases h
  | n + 1, p, q, h => by
    rw [seenFrom] at h
    split at h
    · injection h with h; omega
    · have := seenFrom_lt ss acc n (p + 1) q h; omega
theorem seenI_most (ss : List (List Int)) (l : List Ev) (t : Tr) : seenI ss l t ≤ l.length := by
  unfold seenI
  split
  · rename_i p hp
    have h1 := seenFrom_lt _ _ _ _ _ hp
    have h2 := aheadM_most l t.f5
    have h3 := beforeM_len l l.length
    unfold toM at h1
    omega
  · omega
theorem R_lit0 {α : Type} {d : Kd α} {W : World} {base e : Nat} (hbase : base ≤ W.heap.size) :
    d.R e (W.alloc (.cells #[] e)) base (fun _ => True) (.slice (some ⟨W.heap.size, 0, none⟩) 0 0) [] := by
  refine ⟨fun k hk => trivial, [], ?_, ?_⟩
  · have h2 := World.ownsRow_lit (base := base) (e := e) (size := d.sz) W #[] 0 hbase (by simp [maxLen]) (by simp)
    simpa using h2
  · exact Reps.none _ _

/-- What Order hands back. -/
structure OrderPost (w : World) (first : List Int) (l : List Ev) (e : Ending) (w' : World) : Prop where
  ex : ∃ v, e = .returned (.tuple #[v, .int .i64 (errM first l)]) ∧ (errM first l = 0 → ∃ ts, OrderOf first l ts ∧ kI.R 3 w' w.heap.size (fun _ => True) v (ts.map (·.2))) ∧ (errM first l ≠ 0 → v = .slice none 0 0)
  below : Below w.heap.size w w'
theorem bad_of_ok {first : List Int} {l : List Ev} (h : errM first l = 0) : rightM l = true ∧ badM first l = (triesM l).length := by
  unfold errM at h
  cases hr : rightM l with
  | false => rw [hr] at h; simp at h
  | true =>
    rw [hr] at h
    have hle : badM first l ≤ (triesM l).length := List.findIdx_le_length
    by_cases hb : badM first l < (triesM l).length
    · rw [if_pos hb] at h; simp at h
    · exact ⟨rfl, by omega⟩
theorem seenOut_ok {first : List Int} {l : List Ev} (h : errM first l = 0) : seenOut first l = (triesM l).map (seenI (stsM first l) l) ∧ ∀ t ∈ triesM l, 0 ≤ seenI (stsM first l) l t := by
  obtain ⟨hr, hb⟩ := bad_of_ok h
  refine ⟨?_, fun t ht => ?_⟩
  · unfold seenOut seenUpTo
    rw [hr, if_pos rfl, hb, List.take_length]
  · unfold badM at hb
    rw [List.findIdx_eq_length] at hb
    have := hb t ht
    simpa using this

theorem f_thing (w : World) (a b : Int) : (Instr.field 118 (.agg #[.int .i64 a, .int .i64 b]) 1).run Try.prog w = .ok (.int .i64 b) w := by kernel_rfl
def lenV (v : Value) : Nat := match v with
  | .slice _ n _ => n
  | _ => 0
theorem heap_start (w : World) : HeapAt ((w.alloc (.cells #[] 118)).alloc (.cells #[.slice (some ⟨w.heap.size, 0, none⟩) 0 0] 113)) w.heap.size (w.heap.size + 1) (some ⟨w.heap.size, 0, none⟩) 0 [] := by
  have b1 := Blk.new (w.alloc (.cells #[] 118)) #[.slice (some ⟨w.heap.size, 0, none⟩) 0 0] 113
  rw [World.size_alloc] at b1
  exact ⟨b1, Kd.R_below (R_lit0 (Nat.le_refl _)) ((Below.refl _ _).alloc (Nat.le_refl _) _), Nat.le_succ _⟩
/-- What Order's first loop keeps. -/
structure Pushing (w2 wr : World) (A : Option Addr) (c : Nat) (first : List Int) (l : List Ev) (k : Nat) (hs : List Th) : Prop where
  heap : HeapAt wr w2.heap.size (w2.heap.size + 1) A c hs
  perm : hs.Perm (ranksM first l k)
  hl : HeapL hs
  below : Below w2.heap.size w2 wr
theorem Pushing.step {w2 wr w' : World} {A : Option Addr} {c : Nat} {first : List Int} {l : List Ev} {k : Nat} {hs : List Th} (h : Pushing w2 wr A c first l k hs) (hb : Below wr.heap.size wr w') : Pushing w2 w' A c first l k hs := ⟨h.heap.step hb, h.perm, h.hl, below_of h.below hb⟩
theorem rankM_at {first : List Int} {l : List Ev} {k : Nat} {t : Tr} (h : (triesM l)[k]? = some t) : rankM first l k = (2 * seenI (stsM first l) l t + (if t.f7 then 1 else 0), (k : Int)) := by unfold rankM; rw [h]
/-- What Order's second loop keeps. -/
structure PoppingAt (w2 wr : World) (A : Option Addr) (c : Nat) (first : List Int) (l : List Ev) (v : Value) (out hs : List Th) : Prop where
  heap : HeapAt wr w2.heap.size (w2.heap.size + 1) A c hs
  pop : Popping first l out hs
  row : kI.R 3 wr w2.heap.size (fun _ => True) v (out.map (·.2))
  below : Below w2.heap.size w2 wr
theorem ints_keep {W W' : World} (h : KeepsH W W') {base : Nat} {v : Value} {xs : List Int} (hR : kI.R 3 W base (fun _ => True) v xs) : kI.R 3 W' base (fun _ => True) v xs :=
  Kd.R_mono (Kd.R_move (Kd.R_bound hR) (fun k hk => by
    obtain ⟨_, _, _, q, hq, cells, hc⟩ := hk
    have hq' : q = 3 := by simpa [kI, Kd.int, Kd.scalar] using hq
    subst hq'
    exact h.cells k _ ⟨cells, hc⟩ (by decide) (by decide))) (fun _ _ => trivial)
theorem heap_grown {W W' : World} {base b : Nat} {A : Option Addr} {c : Nat} {hs : List Th} (h : HeapAt W base b A c hs) {v : Value} {xs : List Int} (hR : kI.R 3 W base (fun _ => True) v xs) (hg : W.grownBy W' v.ownBlock) : HeapAt W' base b A c hs := by
  have hK := keepsO_of hR hg
  refine ⟨(hK.cells b _ (blk_typed h.box) (by decide)).trans h.box, Kd.R_mono (Kd.R_move (Kd.R_bound h.row) (fun k hk => ?_)) (fun _ _ => trivial), h.low⟩
  obtain ⟨_, _, _, q, hq, cells, hc⟩ := hk
  have hq' : q = 118 := by simpa [kTh, Kd.pair, Kd.int, Kd.scalar] using hq
  subst hq'
  exact hK.cells k _ ⟨cells, hc⟩ (by decide)

set_option maxHeartbeats 16000000 in
set_option maxRecDepth 100000 in
theorem order_any (w : World) (A : Option Addr) (c : Nat) (l : List Ev) (Av : Option Addr) (cv : Nat) (first : List Int) (hC : kEv.C w A l.length l) (hc : l.length ≤ c) (hl : l.length ≤ 120) (hok : ∀ e ∈ l, EvOkO e) (hF : kI.C w Av first.length first) (hfl : first.length ≤ 20) :
    Calls Try.prog 45 #[.slice Av first.length cv, .slice A l.length c] w (OrderPost w first l) := by
  have HK := Veil.mk (look_any w A c l Av cv first hC hc hl hok hF hfl)
  have HL := Veil.mk hl
  have HTL : Veil ((triesM l).length ≤ 120) := ⟨by
    have h1 : (triesM l).length ≤ l.length := by
      unfold triesM
      cases h : readM l with
      | none => simp
      | some ts => exact readM_length h
    omega⟩
  clear hC hc hl hok hF hfl
  by_cases he : errM first l = 0
  · have m0 : (errM first l != 0) = false := by simp [he]
    have HE := Veil.mk he
    have HSO := Veil.mk (seenOut_ok he)
    clear he
    go_enter Try.func45, Try.ntmps45
    go_wp2_with (first | (go_at_call 70; go_must (refine HK.out.mono ?_; rintro ed w2 ⟨⟨v0, v1, rfl, h0, h1, h2⟩, hb⟩; have HP := Veil.mk h0; have HT := Veil.mk (h1 HE.out); have HB := Veil.mk hb; obtain ⟨Ap, cp, rfl⟩ := Kd.R_slice h0; obtain ⟨At, ct, rfl⟩ := Kd.R_slice (h1 HE.out); clear h0 h1 h2 hb)))
    have HP0 : Veil (Pushing w2 ((w2.alloc (.cells #[] 118)).alloc (.cells #[.slice (some ⟨w2.heap.size, 0, none⟩) 0 0] 113)) (some ⟨w2.heap.size, 0, none⟩) 0 first l 0 []) :=
      ⟨⟨heap_start w2, List.Perm.refl _, fun i hi => absurd hi (by simp), ((Below.refl _ _).alloc (Nat.le_refl _) _).alloc (by simp) _⟩⟩
    generalize (w2.alloc (.cells #[] 118)).alloc (.cells #[.slice (some ⟨w2.heap.size, 0, none⟩) 0 0] 113) = w4 at *
    go_loopw [29] (fun v29 wr => ∃ (k : Nat) (Ah : Option Addr) (ch : Nat) (hs : List Th), k ≤ (triesM l).length ∧ v29 = .int .i64 k ∧ Veil (Pushing w2 wr Ah ch first l k hs)) (fun v29 _ => (triesM l).length - (intOf v29).toNat)
    case atStart => exact ⟨0, _, _, [], Nat.zero_le _, rfl, HP0⟩
    case round =>
      obtain ⟨k, Ah, ch, hs, hk, rfl, HPU⟩ := hrel
      have htl := HTL.out
      by_cases hlt : k < (triesM l).length
      · as_aux_lemma =>
        have d1 : decide ((k : Int) < ((triesM l).length : Int)) = true := decide_eq_true (by omega)
        have d2 : (k : Int) < ((triesM l).length : Int) := by omega
        obtain ⟨g, nv, cv', A8, c8, hve, hac, q0, q1, q2, q3, q4, q5, q6, q7, q8⟩ := tr_own (Kd.R_below HT.out HPU.out.below) k hlt
        injection hve with e1 e2 e3
        subst e1 e3
        clear e2 hac
        have hSL : (seenOut first l).length = (triesM l).length := by rw [HSO.out.1, List.length_map]
        have hpC := (Kd.R_reads' HP.out).2.2
        obtain ⟨ap, rfl, x0⟩ := int_at (Kd.C_below hpC HPU.out.below) k (by omega)
        have hxe : (seenOut first l)[k]'(by omega) = seenI (stsM first l) l (triesM l)[k] := by simp only [HSO.out.1, List.getElem_map]
        rw [hxe] at x0
        have hxl := seenI_most (stsM first l) l (triesM l)[k]
        have hx0 := HSO.out.2 _ (List.getElem_mem hlt)
        have x0' := alloc_cell x0
        have HRK := Veil.mk (rankM_at (first := first) (List.getElem?_eq_getElem hlt))
        have HSLN := Veil.mk hSL
        have d3 : (k : Int) < ((seenOut first l).length : Int) := by omega
        obtain ⟨t, ht⟩ : ∃ t, (triesM l)[k] = t := ⟨_, rfl⟩
        rw [ht] at q0 q1 q2 q3 q4 q5 q6 q7 q8 HRK x0 x0' hxl hx0
        obtain ⟨x, hx⟩ : ∃ x, seenI (stsM first l) l t = x := ⟨_, rfl⟩
        rw [hx] at HRK x0 x0' hxl hx0
        have hxb : x ≤ 120 := by have := HL.out; omega
        have HHL : Veil (hs.length ≤ 1000) := ⟨by rw [HPU.out.perm.length_eq]; unfold ranksM; simp; omega⟩
        have HBA := Veil.mk ((Below.refl wr.heap.size wr).alloc (Nat.le_refl _) (.cells #[.int .i64 t.f0, .int .i64 t.f1, .int .i64 t.f2, .int .i64 t.f3, .int .i64 t.f4, .int .i64 t.f5, .int .i64 t.f6, .bool t.f7, .slice A8 t.f8.length c8] 29))
        have HPA := Veil.mk (HPU.out.step HBA.out)
        have HNX := Veil.mk (ranksM_next first l k)
        clear ht hx hpC hxe hxl hSL
        cases h7 : t.f7 with
        | true =>
          have HRK2 : Veil (rankM first l k = (2 * x + 1, (k : Int))) := ⟨by rw [HRK.out, h7]; rfl⟩
          rw [h7] at q7 HPA
          clear h7 HRK
          have hb2 : 2 * x ≤ 240 := by omega
          have hb3 : 0 ≤ 2 * x := by omega
          go_wp2_with (first | (go_at_call 71; go_must (refine (hpush_any _ w2.heap.size (w2.heap.size + 1) Ah ch hs (2 * x + 1, (k : Int)) HPA.out.heap HPA.out.hl HHL.out).mono ?_; rintro ed w7 ⟨⟨v, rfl⟩, ⟨A7, c7, ys, hh, hp, hl⟩, hb⟩; have HF : Veil (Pushing w2 w7 A7 c7 first l (k + 1) ys) := ⟨⟨hh, by rw [HNX.out, HRK2.out]; exact hp.trans (List.Perm.append_right _ HPA.out.perm), hl, HPA.out.below.trans hb⟩⟩; clear hh hp hl hb)))
          exact ⟨⟨k + 1, _, _, ys, by omega, by go_num, HF⟩, by simp [intOf]; omega⟩
        | false =>
          have HRK2 : Veil (rankM first l k = (2 * x, (k : Int))) := ⟨by rw [HRK.out, h7]; simp⟩
          rw [h7] at q7 HPA
          clear h7 HRK
          have hb2 : 2 * x ≤ 240 := by omega
          have hb3 : 0 ≤ 2 * x := by omega
          go_wp2_with (first | (go_at_call 71; go_must (refine (hpush_any _ w2.heap.size (w2.heap.size + 1) Ah ch hs (2 * x, (k : Int)) HPA.out.heap HPA.out.hl HHL.out).mono ?_; rintro ed w7 ⟨⟨v, rfl⟩, ⟨A7, c7, ys, hh, hp, hl⟩, hb⟩; have HF : Veil (Pushing w2 w7 A7 c7 first l (k + 1) ys) := ⟨⟨hh, by rw [HNX.out, HRK2.out]; exact hp.trans (List.Perm.append_right _ HPA.out.perm), hl, HPA.out.below.trans hb⟩⟩; clear hh hp hl hb)))
          exact ⟨⟨k + 1, _, _, ys, by omega, by go_num, HF⟩, by simp [intOf]; omega⟩
      · as_aux_lemma =>
        have d1 : decide ((k : Int) < ((triesM l).length : Int)) = false := decide_eq_false (by omega)
        have hkk : k = (triesM l).length := by omega
        subst hkk
        have HQ0 : Veil (PoppingAt w2 wr Ah ch first l (.slice none 0 0) [] hs) := ⟨⟨HPU.out.heap, ⟨by simpa using HPU.out.perm, List.Pairwise.nil, (fun x hx => by simp at hx), HPU.out.hl⟩, Kd.R_nil _ _ _ _ _, HPU.out.below⟩⟩
        go_wp2_with fail
        go_loopw [13] (fun v13 wq => ∃ (Ah : Option Addr) (ch : Nat) (out hs : List Th) (B : Option Addr) (d : Nat), v13 = .slice B out.length d ∧ Veil (PoppingAt w2 wq Ah ch first l (.slice B out.length d) out hs)) (fun v13 _ => (triesM l).length - lenV v13)
        case atStart => exact ⟨_, _, [], hs, none, 0, rfl, HQ0⟩
        case round =>
          obtain ⟨Aq, cq, out, gs, B, d, rfl, HQ⟩ := hrel
          have hlen : out.length + gs.length = (triesM l).length := by
            have := HQ.out.pop.perm.length_eq
            rw [List.length_append] at this
            rw [this]
            unfold ranksM
            simp
          have HLEN := Veil.mk hlen
          clear hlen
          have s0 := HQ.out.heap.box.cell 0 _ rfl
          have hm := m_len wr _ _ s0
          by_cases hg : gs = []
          · subst hg
            as_aux_lemma =>
            have HOO : Veil (OrderOf first l out) := ⟨⟨by have := HQ.out.pop.perm; simpa using this, HQ.out.pop.sorted⟩⟩
            go_wp2_with (first | (go_at_call 138; go_must (refine (len_any _ Aq 0 cq).mono ?_; rintro ed w3 ⟨rfl, rfl⟩)))
            go_ret2
            refine ⟨⟨_, by rw [HE.out]; rfl, fun _ => ⟨out, HOO.out, Kd.R_lower HQ.out.row HB.out.size⟩, fun h => absurd HE.out h⟩, below_of HB.out HQ.out.below⟩
          · as_aux_lemma =>
            have hgl : 0 < gs.length := List.length_pos_iff.2 hg
            have hgb : gs.length ≤ 120 := by have := HLEN.out; omega
            have hol : out.length ≤ 120 := by have := HLEN.out; omega
            have d5 : decide ((0 : Int) < (gs.length : Int)) = true := decide_eq_true (by omega)
            have HPOP := Veil.mk (hpop_any wr w2.heap.size (w2.heap.size + 1) Aq cq gs HQ.out.heap HQ.out.pop.heap hgl (by omega))
            clear hg
            go_wp2_with (first | (go_at_call 138; go_must (refine (len_any _ Aq gs.length cq).mono ?_; rintro ed w3 ⟨rfl, rfl⟩)) | (go_at_call 72; go_must (refine HPOP.out.mono ?_; rintro ed w7 ⟨⟨ys, z, rfl, hh, hp⟩, hb, hkk⟩; have hta := (fun w => t_thing w z.1 z.2); have htf := (fun w => f_thing w z.1 z.2); have HH7 := Veil.mk hh; have HP7 := Veil.mk (HQ.out.pop.next hp); have HR7 := Veil.mk (ints_keep hkk HQ.out.row); have HB7 := Veil.mk (HQ.out.below.trans hb); have HZ7 := Veil.mk HB7.out.size; clear hh hp hb hkk)) | ((with_reducible refine gate_builtin (b := .append) (xs := #[.tmp 53, .tmp 58]) rfl ?_); at_builtin; go_must (refine Kd.R_append kI (w0 := w2) w2.heap.size rfl (.tmp 53) (.tmp 58) 70 3 (.int .i64 0) 8 rfl Try.underlying70 infoInt rfl (Nat.succ_pos 0) (Nat.succ_pos 7) (.slice B out.length d) (out.map (·.2)) z.2 _ (fun _ => True) (fun _ => False) ?hs ?hx ?hp ?hq (fun _ _ => trivial) ?ho ?hb ?hz ?hl ?_); go_must (case hs => rfl); go_must (case hx => rfl); go_must (case ho => exact HR7.out); go_must (case hb => exact HB7.out); go_must (case hz => exact HZ7.out); go_must (case hl => rw [List.length_map]; omega); go_must (case hq => exact fun _ h => h.elim); go_must (case hp => rfl); intro v1 w8 hR hB6 hg hat; obtain ⟨A1, c1, rfl⟩ := Kd.R_slice hR; have hln : (out.map (·.2) ++ [z.2]).length = (out ++ [z]).length := (by simp); have HF : Veil (PoppingAt w2 w8 Aq cq first l (.slice A1 (out ++ [z]).length c1) (out ++ [z]) ys) := ⟨⟨heap_grown HH7.out HR7.out hg, HP7.out, by rw [List.map_append]; rw [← hln]; exact hR, hB6⟩⟩; rw [hln]; clear hR hB6 hg hat hln))
            exact ⟨⟨Aq, cq, out ++ [z], ys, _, _, by simp, HF⟩, by have := HLEN.out; simp [lenV]; omega⟩
  · have m0 : (errM first l != 0) = true := by simp [he]
    have HE := Veil.mk he
    clear he
    go_enter Try.func45, Try.ntmps45
    go_wp2_with (first | (go_at_call 70; go_must (refine HK.out.mono ?_; rintro ed w2 ⟨⟨v0, v1, rfl, h0, h1, h2⟩, hb⟩; have HB := Veil.mk hb; clear h0 h1 h2 hb)))
    go_ret2
    exact ⟨⟨_, rfl, fun h => absurd h HE.out, fun _ => rfl⟩, HB.out⟩
end Go.Proofs.Ytjmnbbflahacoaa.Opq
