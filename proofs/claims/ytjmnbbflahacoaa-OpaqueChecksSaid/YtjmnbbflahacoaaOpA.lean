/- opaque: what it computes; ahead and seen, walked. No condition. -/
import Derived.Test.YtjmnbbflahacoaaModF
import Derived.Test.YtjmnbbflahacoaaModS
import Derived.Test.YtjmnbbflahacoaaLate
import Derived.Test.YtjmnbbflahacoaaWalkApart
namespace Go.Proofs.Ytjmnbbflahacoaa.Opq
open Go.RowKit Go.Proofs.Ytjmnbbflahacoaa.Mem Go.Proofs.Ytjmnbbflahacoaa.Hist Go.Proofs.Ytjmnbbflahacoaa.Model Go.Proofs.Ytjmnbbflahacoaa.PHistTells Go.Proofs.YtjmnbbflahacoaaW.PrintWords
set_option linter.unusedVariables false
set_option linter.unusedSimpArgs false

/-- How many commits stand ahead of a place; of none, all. -/
def aheadM (l : List Ev) (p : Int) : Nat := if p < 0 then beforeM l l.length else beforeM l p
def toM (l : List Ev) (t : Tr) : Nat := aheadM l t.f5
def fromM (l : List Ev) (t : Tr) : Nat := if t.f7 then aheadM l t.f5 else aheadM l t.f4
/-- The first of n states from p on that a try's accesses fit. -/
def seenFrom (ss : List (List Int)) (acc : List Acc) : Nat → Nat → Option Nat
  | 0, _ => none
  | n + 1, p => if fitsM (ss.getD p []) acc then some p else seenFrom ss acc n (p + 1)
def seenI (ss : List (List Int)) (l : List Ev) (t : Tr) : Int := match seenFrom ss t.f8 (toM l t + 1 - fromM l t) (fromM l t) with
  | some p => (p : Int)
  | none => -1
theorem beforeM_mono (l : List Ev) {p q : Int} (h : p ≤ q) : beforeM l p ≤ beforeM l q := by
  unfold beforeM
  have : l.take p.toNat = (l.take q.toNat).take p.toNat := by rw [List.take_take, Nat.min_eq_left (by omega)]
  rw [this]
  exact List.Sublist.countP_le (List.take_sublist _ _)
theorem beforeM_most (l : List Ev) (p : Int) : beforeM l p ≤ beforeM l l.length := by
  unfold beforeM
  have : l.take ((l.length : Int).toNat) = l := by simp
  rw [this]
  exact List.Sublist.countP_le (List.take_sublist _ _)
theorem beforeM_len (l : List Ev) (p : Int) : beforeM l p ≤ l.length := by
  unfold beforeM
  exact Nat.le_trans List.countP_le_length (by rw [List.length_take]; omega)
theorem aheadM_most (l : List Ev) (p : Int) : aheadM l p ≤ beforeM l l.length := by
  unfold aheadM
  split
  · exact Nat.le_refl _
  · exact beforeM_most l p
theorem seenFrom_next {ss : List (List Int)} {acc : List Acc} {n p : Nat} (h : fitsM (ss.getD p []) acc = false) : seenFrom ss acc (n + 1) p = seenFrom ss acc n (p + 1) := by
  rw [seenFrom, h]
  rfl

set_option maxHeartbeats 4000000 in
set_option maxRecDepth 100000 in
theorem ahead_any (w : World) (bb : Nat) (A : Option Addr) (c : Nat) (l : List Ev) (S : Value) (place : Int) (hB : Blk w bb 146 [.slice A l.length c, S, .int .i64 (beforeM l l.length)]) (hC : kEv.C w A l.length l) (hc : l.length ≤ c) (hl : l.length ≤ 1000000000) :
    Calls Try.prog 110 #[.pointer (some ⟨bb, 0, none⟩), .int .i64 place] w fun e w' => e = .returned (.int .i64 (aheadM l place)) ∧ Below w.heap.size w w' := by
  have HB := Veil.mk (before_any w A c l place hC hc hl)
  have p0 := hB.cell 0 _ rfl
  have p2 := hB.cell 2 _ rfl
  clear hB hC hc
  by_cases h : place < 0
  · have d0 : decide (place < 0) = true := decide_eq_true h
    have HA : Veil (aheadM l place = beforeM l l.length) := ⟨by unfold aheadM; rw [if_pos h]⟩
    clear h
    go_enter Try.func110, Try.ntmps110
    go_wp2
    go_ret
    exact ⟨by rw [HA.out]; rfl, Below.refl _ _⟩
  · have d0 : decide (place < 0) = false := decide_eq_false h
    have HA : Veil (aheadM l place = beforeM l place) := ⟨by unfold aheadM; rw [if_neg h]⟩
    clear h
    go_enter Try.func110, Try.ntmps110
    go_wp2_with (first | (go_at_call 23; refine HB.out.mono ?_; rintro ed w2 ⟨rfl, hb⟩; have HB2 := Veil.mk hb; clear hb))
    go_ret
    exact ⟨by rw [HA.out]; rfl, HB2.out⟩

/-- What stands while a try is sought. -/
structure SeekAt (w W : World) (bb : Nat) (A : Option Addr) (c : Nat) (l : List Ev) (S : Option Addr) (cs : Nat) (ss : List (List Int)) (t : Tr) (A8 : Option Addr) (c8 : Nat) : Prop where
  book : Blk W bb 146 [.slice A l.length c, .slice S ss.length cs, .int .i64 (beforeM l l.length)]
  box : Blk W w.heap.size 29 (trC t (.slice A8 t.f8.length c8))
  tr : kEv.C W A l.length l
  sts : kS.C W S ss.length ss
  acc : kAcc.C W A8 t.f8.length t.f8
  below : Below w.heap.size w W
theorem SeekAt.step {w W W' : World} {bb : Nat} {A : Option Addr} {c : Nat} {l : List Ev} {S : Option Addr} {cs : Nat} {ss : List (List Int)} {t : Tr} {A8 : Option Addr} {c8 : Nat} (h : SeekAt w W bb A c l S cs ss t A8 c8) (hb : Below W.heap.size W W') : SeekAt w W' bb A c l S cs ss t A8 c8 :=
  ⟨h.book.below hb h.book.lt, h.box.below hb h.box.lt, Kd.C_below h.tr hb, Kd.C_below h.sts hb, Kd.C_below h.acc hb, below_of h.below hb⟩

set_option maxHeartbeats 16000000 in
set_option maxRecDepth 100000 in
theorem seen_any (w : World) (bb : Nat) (A : Option Addr) (c : Nat) (l : List Ev) (S : Option Addr) (cs : Nat) (ss : List (List Int)) (t : Tr) (A8 : Option Addr) (c8 : Nat)
    (hB : Blk w bb 146 [.slice A l.length c, .slice S ss.length cs, .int .i64 (beforeM l l.length)]) (hC : kEv.C w A l.length l) (hc : l.length ≤ c) (hl : l.length ≤ 1000)
    (hS : kS.C w S ss.length ss) (hsl : ss.length = beforeM l l.length + 1) (hse : ∀ s ∈ ss, s.length ≤ 1000000) (hA : kAcc.C w A8 t.f8.length t.f8) (ha : t.f8.length ≤ 1000) (hok : ∀ a ∈ t.f8, (Lit.int .i64 a.f2).wf = true) :
    Calls Try.prog 87 #[.pointer (some ⟨bb, 0, none⟩), .agg #[.int .i64 t.f0, .int .i64 t.f1, .int .i64 t.f2, .int .i64 t.f3, .int .i64 t.f4, .int .i64 t.f5, .int .i64 t.f6, .bool t.f7, .slice A8 t.f8.length c8]] w
      fun e w' => e = .returned (.int .i64 (seenI ss l t)) ∧ Below w.heap.size w w' := by
  have hb0 := (Below.refl w.heap.size w).alloc (Nat.le_refl _) (.cells #[.int .i64 t.f0, .int .i64 t.f1, .int .i64 t.f2, .int .i64 t.f3, .int .i64 t.f4, .int .i64 t.f5, .int .i64 t.f6, .bool t.f7, .slice A8 t.f8.length c8] 29)
  have HS0 : Veil (SeekAt w (w.alloc (.cells #[.int .i64 t.f0, .int .i64 t.f1, .int .i64 t.f2, .int .i64 t.f3, .int .i64 t.f4, .int .i64 t.f5, .int .i64 t.f6, .bool t.f7, .slice A8 t.f8.length c8] 29)) bb A c l S cs ss t A8 c8) :=
    ⟨hB.below hb0 hB.lt, Blk.new w _ _, Kd.C_below hC hb0, Kd.C_below hS hb0, Kd.C_below hA hb0, hb0⟩
  have HCC := Veil.mk hc
  have HL := Veil.mk hl
  have HSL := Veil.mk hsl
  have HSE := Veil.mk hse
  have HAL := Veil.mk ha
  have HOK := Veil.mk hok
  clear hB hC hc hl hS hsl hse hA ha hok hb0
  have HFR : Veil (fromM l t = if t.f7 then aheadM l t.f5 else aheadM l t.f4) := ⟨rfl⟩
  have HSI : Veil (seenI ss l t = match seenFrom ss t.f8 (toM l t + 1 - fromM l t) (fromM l t) with
    | some p => (p : Int)
    | none => -1) := ⟨rfl⟩
  have HTO : Veil (toM l t ≤ 1000 ∧ toM l t < ss.length) := ⟨by
    have h1 := aheadM_most l t.f5
    have h2 := beforeM_len l l.length
    have := HSL.out
    have := HL.out
    unfold toM
    omega⟩
  have HFO : Veil (fromM l t ≤ 1000) := ⟨by
    have h1 := aheadM_most l t.f5
    have h3 := aheadM_most l t.f4
    have h2 := beforeM_len l l.length
    have := HL.out
    unfold fromM
    split <;> omega⟩
  have HT5 : Veil (aheadM l t.f5 = toM l t) := ⟨rfl⟩
  go_enter Try.func87, Try.ntmps87
  go_wp2_with fail
  generalize w.alloc (.cells #[.int .i64 t.f0, .int .i64 t.f1, .int .i64 t.f2, .int .i64 t.f3, .int .i64 t.f4, .int .i64 t.f5, .int .i64 t.f6, .bool t.f7, .slice A8 t.f8.length c8] 29) = w1 at *
  refine wp_region_X (fun w' => w'.cell? ⟨w.heap.size, 4, none⟩ = some (.int .i64 t.f4) ∧ w'.cell? ⟨w.heap.size, 5, none⟩ = some (.int .i64 t.f5)) [] (by kernel_rfl) ?_
  have HS1 := Veil.mk (HS0.out.step (Below.refl w1.heap.size w1).drew)
  have hS0 := And.intro (HS1.out.box.cell 4 _ rfl) (HS1.out.box.cell 5 _ rfl)
  refine wpAnyX_take3 (i := 0) (v := ?_) rfl (by kernel_rfl) (by kernel_rfl) (by kernel_rfl) (by kernel_rfl) (fun _ _ _ h => h) (Or.inl ⟨by rfl, ?_⟩) (by assumption) ?_
  rotate_left 1
  · intro w hSw; (try dsimp only at hSw); go_split_ands; (first | (go_simp; done) | (go_simp; with_reducible rfl))
  try simp only [Act.put, List.getElem_toArray, List.getElem_cons_zero, List.getElem_cons_succ, List.setIfInBounds_toArray, List.set_cons_zero, List.set_cons_succ]
  refine wpAnyX_take3 (i := 1) (v := ?_) rfl (by kernel_rfl) (by kernel_rfl) (by kernel_rfl) (by kernel_rfl) (fun _ _ _ h => h) (Or.inl ⟨by rfl, ?_⟩) (by assumption) ?_
  rotate_left 1
  · intro w hSw; (try dsimp only at hSw); go_split_ands; (first | (go_simp; done) | (go_simp; with_reducible rfl))
  try simp only [Act.put, List.getElem_toArray, List.getElem_cons_zero, List.getElem_cons_succ, List.setIfInBounds_toArray, List.set_cons_zero, List.set_cons_succ]
  refine wpAnyX_take3 (i := 2) (v := ?_) rfl (by kernel_rfl) (by kernel_rfl) (by kernel_rfl) (by kernel_rfl) (fun _ _ _ h => h) (Or.inl ⟨by rfl, ?_⟩) (by assumption) ?_
  rotate_left 1
  · intro w hSw; (try dsimp only at hSw); go_split_ands; (first | (go_simp; done) | (go_simp; with_reducible rfl))
  try simp only [Act.put, List.getElem_toArray, List.getElem_cons_zero, List.getElem_cons_succ, List.setIfInBounds_toArray, List.set_cons_zero, List.set_cons_succ]
  refine wpAnyX_take3 (i := 4) (v := ?_) rfl (by kernel_rfl) (by kernel_rfl) (by kernel_rfl) (by kernel_rfl) (fun _ _ _ h => h) (Or.inl ⟨by rfl, ?_⟩) (by assumption) ?_
  rotate_left 1
  · intro w hSw; (try dsimp only at hSw); go_split_ands; (first | (go_simp; done) | (go_simp; with_reducible rfl))
  try simp only [Act.put, List.getElem_toArray, List.getElem_cons_zero, List.getElem_cons_succ, List.setIfInBounds_toArray, List.set_cons_zero, List.set_cons_succ]
  refine wpAnyX_take3 (i := 5) (v := ?_) rfl (by kernel_rfl) (by kernel_rfl) (by kernel_rfl) (by kernel_rfl) (fun _ _ _ h => h) (Or.inl ⟨by rfl, ?_⟩) (by assumption) ?_
  rotate_left 1
  · intro w hSw; (try dsimp only at hSw); go_split_ands; (first | (go_simp; done) | (go_simp; with_reducible rfl))
  try simp only [Act.put, List.getElem_toArray, List.getElem_cons_zero, List.getElem_cons_succ, List.setIfInBounds_toArray, List.set_cons_zero, List.set_cons_succ]
  refine wpAnyX_take3 (i := 6) (v := ?_) rfl (by kernel_rfl) (by kernel_rfl) (by kernel_rfl) (by kernel_rfl) (fun _ _ _ h => h) (Or.inl ⟨by rfl, ?_⟩) (by assumption) ?_
  rotate_left 1
  · intro w hSw; (try dsimp only at hSw); go_split_ands; (first | (go_simp; done) | (go_simp; with_reducible rfl))
  try simp only [Act.put, List.getElem_toArray, List.getElem_cons_zero, List.getElem_cons_succ, List.setIfInBounds_toArray, List.set_cons_zero, List.set_cons_succ]
  clear hS0
  refine wpAnyX_one (i := 3) (by kernel_rfl) rfl (fun K hK => ?_)
  go_simp
  refine (ahead_any _ bb A c l (.slice S ss.length cs) t.f4 HS1.out.book HS1.out.tr HCC.out (by have := HL.out; omega)).mono ?_
  rintro e1 w2 ⟨rfl, hb2⟩
  have HS2 := Veil.mk (HS1.out.step hb2)
  clear hb2
  dsimp only
  refine hK.out _ _ (fun _ => ⟨HS2.out.box.cell 4 _ rfl, HS2.out.box.cell 5 _ rfl⟩) ?_
  clear hK K
  try simp only [Act.put, List.getElem_toArray, List.getElem_cons_zero, List.getElem_cons_succ, List.setIfInBounds_toArray, List.set_cons_zero, List.set_cons_succ]
  refine wpAnyX_one (i := 7) (by kernel_rfl) rfl (fun K hK => ?_)
  go_simp
  refine (ahead_any _ bb A c l (.slice S ss.length cs) t.f5 HS2.out.book HS2.out.tr HCC.out (by have := HL.out; omega)).mono ?_
  rintro e1 w3 ⟨rfl, hb3⟩
  rw [HT5.out] at HFR ⊢
  have HS3 := Veil.mk (HS2.out.step hb3)
  clear hb3
  dsimp only
  refine hK.out _ _ (fun _ => ⟨HS3.out.box.cell 4 _ rfl, HS3.out.box.cell 5 _ rfl⟩) ?_
  clear hK K
  try simp only [Act.put, List.getElem_toArray, List.getElem_cons_zero, List.getElem_cons_succ, List.setIfInBounds_toArray, List.set_cons_zero, List.set_cons_succ]
  refine wpAnyX_one (i := 8) (by kernel_rfl) rfl (fun K hK => ?_)
  go_simp
  refine hK.out _ _ (fun _ => ⟨HS3.out.box.cell 4 _ rfl, HS3.out.box.cell 5 _ rfl⟩) ?_
  clear hK K
  try simp only [Act.put, List.getElem_toArray, List.getElem_cons_zero, List.getElem_cons_succ, List.setIfInBounds_toArray, List.set_cons_zero, List.set_cons_succ]
  refine wpAnyX_one (i := 9) (by kernel_rfl) rfl (fun K hK => ?_)
  go_simp
  refine hK.out _ _ (fun _ => ⟨HS3.out.box.cell 4 _ rfl, HS3.out.box.cell 5 _ rfl⟩) ?_
  clear hK K
  refine wpAnyX_done (by kernel_rfl) ?_ _
  have p7 := HS3.out.box.cell 7 _ rfl
  obtain ⟨tt, hto⟩ : ∃ n, toM l t = n := ⟨_, rfl⟩
  obtain ⟨fr, hfr⟩ : ∃ n, fromM l t = n := ⟨_, rfl⟩
  rw [hto] at HFR HSI HTO ⊢
  rw [hfr] at HFR HSI HFO
  clear hto hfr HT5
  have HS4 : Veil (SeekAt w w3 bb A c l S cs ss t A8 c8) := HS3
  cases h7 : t.f7
  all_goals
    have H7 := Veil.mk h7
    rw [h7] at p7 HFR
    clear h7
    go_wp2_with fail
    clear p7
    go_loopw [7] (fun v7 wr => ∃ k : Nat, k ≤ 2000 ∧ v7 = .int .i64 k ∧ Veil (seenFrom ss t.f8 (tt + 1 - fr) fr = seenFrom ss t.f8 (tt + 1 - k) k) ∧ Veil (SeekAt w wr bb A c l S cs ss t A8 c8)) (fun v7 _ => 3000 - (intOf v7).toNat)
    case atStart => exact ⟨fr, by have := HFO.out; omega, by rw [HFR.out]; rfl, ⟨rfl⟩, HS4⟩
    case round => as_aux_lemma =>
      obtain ⟨k, hk, rfl, HK, HS⟩ := hrel
      obtain ⟨htt, htt2⟩ := HTO.out
      have hss := HSL.out
      by_cases hkt : k ≤ tt
      · have d1 : decide ((k : Int) ≤ (tt : Int)) = true := decide_eq_true (by omega)
        have d2 : decide (k ≤ tt) = true := decide_eq_true hkt
        have hks : k < ss.length := by omega
        obtain ⟨ad, Ak, ck, hSe, s0, _, hC⟩ := sts_at HS.out.sts k hks
        subst hSe
        have HCK := Veil.mk hC
        have HLK := Veil.mk (HSE.out ss[k] (List.getElem_mem hks))
        have HGD : Veil (ss.getD k [] = ss[k]) := ⟨by rw [List.getD_eq_getElem?_getD, List.getElem?_eq_getElem hks]; rfl⟩
        have hk2 : (k : Int) < (ss.length : Int) := by omega
        obtain ⟨sk, hsk⟩ : ∃ s, ss[k] = s := ⟨_, rfl⟩
        rw [hsk] at s0 HCK HLK HGD
        clear hsk hC hss htt2
        obtain ⟨m, hm⟩ : ∃ m, tt + 1 - k = m + 1 := ⟨tt - k, by omega⟩
        have hm2 : tt + 1 - (k + 1) = m := by omega
        have HK2 : Veil (fitsM sk t.f8 = true → seenFrom ss t.f8 (tt + 1 - fr) fr = some k) := ⟨fun hf => by rw [HK.out, hm, seenFrom, HGD.out, hf]; rfl⟩
        have HK3 : Veil (fitsM sk t.f8 = false → seenFrom ss t.f8 (tt + 1 - fr) fr = seenFrom ss t.f8 (tt + 1 - (k + 1)) (k + 1)) := ⟨fun hf => by rw [HK.out, hm, hm2, seenFrom_next (by rw [HGD.out]; exact hf)]⟩
        clear hm hm2
        obtain ⟨q0, q1, q2, q3, q4, q5, q6, q7, q8⟩ := tr_cells HS.out.box
        have b1 := HS.out.book.cell 1 _ rfl
        go_wp2_with fail
        refine wp_region_X (fun w' => w'.cell? ⟨bb, 1, none⟩ = some (.slice (some ad) ss.length cs) ∧ w'.cell? (ad.add k) = some (.slice Ak sk.length ck) ∧ trP w' w.heap.size t (.slice A8 t.f8.length c8)) [] (by kernel_rfl) ?_
        have hS0 := And.intro b1 (And.intro s0 (And.intro q0 (And.intro q1 (And.intro q2 (And.intro q3 (And.intro q4 (And.intro q5 (And.intro q6 (And.intro q7 q8)))))))))
        unfold trP
        refine wpAnyX_take3 (i := 0) (v := ?_) rfl (by kernel_rfl) (by kernel_rfl) (by kernel_rfl) (by kernel_rfl) (fun _ _ _ h => h) (Or.inl ⟨by rfl, ?_⟩) (by assumption) ?_
        rotate_left 1
        · intro w hSw; (try dsimp only at hSw); go_split_ands; (first | (go_simp; done) | (go_simp; with_reducible rfl))
        try simp only [Act.put, List.getElem_toArray, List.getElem_cons_zero, List.getElem_cons_succ, List.setIfInBounds_toArray, List.set_cons_zero, List.set_cons_succ]
        refine wpAnyX_take3 (i := 1) (v := ?_) rfl (by kernel_rfl) (by kernel_rfl) (by kernel_rfl) (by kernel_rfl) (fun _ _ _ h => h) (Or.inl ⟨by rfl, ?_⟩) (by assumption) ?_
        rotate_left 1
        · intro w hSw; (try dsimp only at hSw); go_split_ands; (first | (go_simp; done) | (go_simp; with_reducible rfl))
        try simp only [Act.put, List.getElem_toArray, List.getElem_cons_zero, List.getElem_cons_succ, List.setIfInBounds_toArray, List.set_cons_zero, List.set_cons_succ]
        refine wpAnyX_take3 (i := 2) (v := ?_) rfl (by kernel_rfl) (by kernel_rfl) (by kernel_rfl) (by kernel_rfl) (fun _ _ _ h => h) (Or.inl ⟨by rfl, ?_⟩) (by assumption) ?_
        rotate_left 1
        · intro w hSw; (try dsimp only at hSw); go_split_ands; (first | (go_simp; done) | (go_simp; with_reducible rfl))
        try simp only [Act.put, List.getElem_toArray, List.getElem_cons_zero, List.getElem_cons_succ, List.setIfInBounds_toArray, List.set_cons_zero, List.set_cons_succ]
        refine wpAnyX_take3 (i := 3) (v := ?_) rfl (by kernel_rfl) (by kernel_rfl) (by kernel_rfl) (by kernel_rfl) (fun _ _ _ h => h) (Or.inl ⟨by rfl, ?_⟩) (by assumption) ?_
        rotate_left 1
        · intro w hSw; (try dsimp only at hSw); go_split_ands; (first | (go_simp; done) | (go_simp; with_reducible rfl))
        try simp only [Act.put, List.getElem_toArray, List.getElem_cons_zero, List.getElem_cons_succ, List.setIfInBounds_toArray, List.set_cons_zero, List.set_cons_succ]
        refine wpAnyX_take3 (i := 4) (v := ?_) rfl (by kernel_rfl) (by kernel_rfl) (by kernel_rfl) (by kernel_rfl) (fun _ _ _ h => h) (Or.inl ⟨by rfl, ?_⟩) (by assumption) ?_
        rotate_left 1
        · intro w hSw; (try dsimp only at hSw); go_split_ands; (first | (go_simp; done) | (go_simp; with_reducible rfl))
        try simp only [Act.put, List.getElem_toArray, List.getElem_cons_zero, List.getElem_cons_succ, List.setIfInBounds_toArray, List.set_cons_zero, List.set_cons_succ]
        refine wpAnyX_take3 (i := 5) (v := ?_) rfl (by kernel_rfl) (by kernel_rfl) (by kernel_rfl) (by kernel_rfl) (fun _ _ _ h => h) (Or.inl ⟨by rfl, ?_⟩) (by assumption) ?_
        rotate_left 1
        · intro w hSw; (try dsimp only at hSw); go_split_ands; (first | (go_simp; done) | (go_simp; with_reducible rfl))
        try simp only [Act.put, List.getElem_toArray, List.getElem_cons_zero, List.getElem_cons_succ, List.setIfInBounds_toArray, List.set_cons_zero, List.set_cons_succ]
        refine wpAnyX_take3 (i := 6) (v := ?_) rfl (by kernel_rfl) (by kernel_rfl) (by kernel_rfl) (by kernel_rfl) (fun _ _ _ h => h) (Or.inl ⟨by rfl, ?_⟩) (by assumption) ?_
        rotate_left 1
        · intro w hSw; (try dsimp only at hSw); go_split_ands; (first | (go_simp; done) | (go_simp; with_reducible rfl))
        try simp only [Act.put, List.getElem_toArray, List.getElem_cons_zero, List.getElem_cons_succ, List.setIfInBounds_toArray, List.set_cons_zero, List.set_cons_succ]
        refine wpAnyX_take3 (i := 7) (v := ?_) rfl (by kernel_rfl) (by kernel_rfl) (by kernel_rfl) (by kernel_rfl) (fun _ _ _ h => h) (Or.inl ⟨by rfl, ?_⟩) (by assumption) ?_
        rotate_left 1
        · intro w hSw; (try dsimp only at hSw); go_split_ands; (first | (go_simp; done) | (go_simp; with_reducible rfl))
        try simp only [Act.put, List.getElem_toArray, List.getElem_cons_zero, List.getElem_cons_succ, List.setIfInBounds_toArray, List.set_cons_zero, List.set_cons_succ]
        clear hS0
        have HD := Veil.mk (HS.out.step (Below.refl wr.heap.size wr).drew)
        refine wpAnyX_one (i := 8) (by kernel_rfl) rfl (fun K hK => ?_)
        go_simp
        refine (fits_any _ Ak ck sk t A8 c8 (Kd.C_below HCK.out (Below.refl _ _).drew) HLK.out HD.out.acc (by have := HAL.out; omega) HOK.out).mono ?_
        rintro e1 w5 ⟨rfl, hb5⟩
        have HS5 := Veil.mk (HD.out.step hb5)
        have HB5 := Veil.mk (((Below.refl wr.heap.size wr).drew).trans hb5)
        clear hb5
        dsimp only
        have eC : ∀ o v, wr.cell? o = some v → w5.cell? o = some v := fun o v hv => (HB5.out.cell (p := o) (World.block_lt_of_cell? wr _ hv)).trans hv
        refine hK.out _ _ (fun _ => ⟨eC _ _ b1, eC _ _ s0, eC _ _ q0, eC _ _ q1, eC _ _ q2, eC _ _ q3, eC _ _ q4, eC _ _ q5, eC _ _ q6, eC _ _ q7, eC _ _ q8⟩) ?_
        clear hK K eC b1 s0 q0 q1 q2 q3 q4 q5 q6 q7 q8
        refine wpAnyX_done (by kernel_rfl) ?_ _
        try simp only [Act.put, List.getElem_toArray, List.getElem_cons_zero, List.getElem_cons_succ, List.setIfInBounds_toArray, List.set_cons_zero, List.set_cons_succ]
        cases hf : fitsM sk t.f8 with
        | true =>
          have HSE2 : Veil (seenI ss l t = (k : Int)) := ⟨by rw [HSI.out, HK2.out hf]⟩
          clear hf
          go_wp2
          go_ret
          exact ⟨by rw [HSE2.out]; rfl, HS5.out.below⟩
        | false =>
          have HN := Veil.mk (HK3.out hf)
          clear hf
          go_wp2
          exact ⟨⟨k + 1, by omega, by go_num, HN, HS5⟩, by simp [intOf]; omega⟩
      · have d1 : decide ((k : Int) ≤ (tt : Int)) = false := decide_eq_false (by omega)
        have d2 : decide (k ≤ tt) = false := decide_eq_false hkt
        have HSE2 : Veil (seenI ss l t = -1) := ⟨by rw [HSI.out, HK.out, show tt + 1 - k = 0 by omega]; rfl⟩
        go_wp2
        go_ret
        exact ⟨by rw [HSE2.out]; rfl, HS.out.below⟩
end Go.Proofs.Ytjmnbbflahacoaa.Opq
