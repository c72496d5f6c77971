/- lang: a transaction that is done alone: its steps, walked. No condition. -/
import Derived.Test.YtjmnbbflahacoaaLang
import Derived.Test.YtjmnbbflahacoaaLate
namespace Go.Proofs.Ytjmnbbflahacoaa.Lang
open Go.RowKit Go.Proofs.Ytjmnbbflahacoaa.Mem Go.Proofs.Ytjmnbbflahacoaa.Hist Go.Proofs.Ytjmnbbflahacoaa.Model Go.Proofs.YtjmnbbflahacoaaW.PrintWords
set_option linter.unusedVariables false
set_option linter.unusedSimpArgs false

/-- The sum behind an operation. -/
def sumO (o : Op) (s : Int) : Int := if o.f0 = 3 then o.f2 else if o.f0 = 4 then wrap64 (s + o.f2) else s
set_option maxHeartbeats 1000000 in
theorem sum_any (w : World) (o : Op) (s : Int) : Calls Try.prog 109 #[.agg #[.int .i64 o.f0, .int .i64 o.f1, .int .i64 o.f2], .int .i64 s] w fun e w' => e = .returned (.int .i64 (sumO o s)) ∧ Below w.heap.size w w' := by
  have HB := Veil.mk ((Below.refl w.heap.size w).alloc (Nat.le_refl _) (.cells #[.int .i64 o.f0, .int .i64 o.f1, .int .i64 o.f2] 142))
  by_cases h3 : o.f0 = 3
  · have m3 : (o.f0 == 3) = true := beq_iff_eq.2 h3
    have HS : Veil (sumO o s = o.f2) := ⟨by unfold sumO; rw [if_pos h3]⟩
    clear h3
    go_enter Try.func109, Try.ntmps109
    go_wp2
    go_ret
    exact ⟨by rw [HS.out]; rfl, HB.out⟩
  have m3 : (o.f0 == 3) = false := beq_eq_false_iff_ne.2 h3
  by_cases h4 : o.f0 = 4
  · have m4 : (o.f0 == 4) = true := beq_iff_eq.2 h4
    have HS : Veil (sumO o s = wrap64 (s + o.f2)) := ⟨by unfold sumO; rw [if_neg h3, if_pos h4]⟩
    clear h3 h4
    go_enter Try.func109, Try.ntmps109
    go_wp2
    go_ret
    exact ⟨by rw [HS.out]; rfl, HB.out⟩
  have m4 : (o.f0 == 4) = false := beq_eq_false_iff_ne.2 h4
  have HS : Veil (sumO o s = s) := ⟨by unfold sumO; rw [if_neg h3, if_neg h4]⟩
  clear h3 h4
  go_enter Try.func109, Try.ntmps109
  go_wp2
  go_ret
  exact ⟨by rw [HS.out]; rfl, HB.out⟩

/-- A solo in block b: the values, in a row of its own ahead of b, and the sum. -/
structure SoloAt (w : World) (base b : Nat) (A : Option Addr) (c : Nat) (vs : List Int) (s : Int) : Prop where
  blk : Blk w b 138 [.slice A vs.length c, .int .i64 s]
  row : kI.R 2 w base (fun k => k < b) (.slice A vs.length c) vs
  low : base ≤ b
theorem SoloAt.below {w w' : World} {base b : Nat} {A : Option Addr} {c : Nat} {vs : List Int} {s : Int} (h : SoloAt w base b A c vs s) (hb : Below w.heap.size w w') : SoloAt w' base b A c vs s :=
  ⟨h.blk.below hb h.blk.lt, Kd.R_below h.row hb, h.low⟩
/-- What a step may turn: the solo, and its values. -/
def ofSolo (b : Nat) (A : Option Addr) (k : Nat) : Prop := k = b ∨ (Value.slice A 0 0).ownBlock = some k
theorem ownA (A : Option Addr) (n c : Nat) : (Value.slice A n c).ownBlock = (Value.slice A 0 0).ownBlock := by cases A <;> rfl
theorem SoloAt.own {w : World} {base b : Nat} {A : Option Addr} {c : Nat} {vs : List Int} {s : Int} (h : SoloAt w base b A c vs s) {k : Nat} (hk : (Value.slice A 0 0).ownBlock = some k) : base ≤ k ∧ k < b := by
  rw [← ownA A vs.length c] at hk
  obtain ⟨inner, ho⟩ := Kd.R_own h.row
  exact ⟨own_base ho k hk, h.row.1 k hk⟩
theorem SoloAt.sum {w : World} {base b : Nat} {A : Option Addr} {c : Nat} {vs : List Int} {s : Int} (h : SoloAt w base b A c vs s) (u : Int) : SoloAt (w.setCell ⟨b, 1, none⟩ (.int .i64 u)) base b A c vs u :=
  ⟨h.blk.set 1 _, Kd.R_far (p := ⟨b, 1, none⟩) h.row (fun k hk => Nat.ne_of_lt hk) _, h.low⟩
theorem SoloAt.at {w : World} {base b : Nat} {A : Option Addr} {c : Nat} {vs : List Int} {s : Int} (h : SoloAt w base b A c vs s) (i : Nat) (hi : i < vs.length) : ∃ g, A = some ⟨g, 0, none⟩ ∧ g < b ∧ w.cell? ⟨g, i, none⟩ = some (.int .i64 vs[i]) ∧ w.frozen? ⟨g, i, none⟩ = false := by
  obtain ⟨g, cap, he, _, _, _⟩ := Kd.R_form h.row (by omega)
  injection he with he _ _
  subst he
  obtain ⟨x0, f0⟩ := int_cell h.row i hi
  exact ⟨g, rfl, h.row.1 g (by simp [Value.ownBlock]), x0, f0⟩
theorem SoloAt.put {w : World} {base b g : Nat} {c : Nat} {vs : List Int} {s : Int} (h : SoloAt w base b (some ⟨g, 0, none⟩) c vs s) (hg : g < b) (i : Nat) (u : Int) : SoloAt (w.setCell ⟨g, i, none⟩ (.int .i64 u)) base b (some ⟨g, 0, none⟩) c (vs.set i u) s := by
  have hr := R_set_int h.row (i : Int) u rfl
  rw [Int.toNat_natCast] at hr
  refine ⟨?_, ?_, h.low⟩
  · rw [List.length_set]
    exact h.blk.far (p := ⟨g, i, none⟩) (by show b ≠ g; omega) _
  · rw [List.length_set]
    exact hr

set_option maxHeartbeats 4000000 in
set_option maxRecDepth 100000 in
theorem read_any (w : World) (base b : Nat) (A : Option Addr) (c : Nat) (vs : List Int) (s : Int) (o : Op) (h : SoloAt w base b A c vs s) (h0 : 0 ≤ o.f1) (h1 : o.f1 < (vs.length : Int)) :
    Calls Try.prog 83 #[.pointer (some ⟨b, 0, none⟩), .agg #[.int .i64 o.f0, .int .i64 o.f1, .int .i64 o.f2]] w
      fun e w' => e = .returned (.tuple #[]) ∧ SoloAt w' base b A c vs (vs.getD o.f1.toNat 0) ∧ Upd (ofSolo b A) w w' := by
  obtain ⟨i, hi⟩ : ∃ i : Nat, o.f1 = (i : Int) := ⟨o.f1.toNat, by omega⟩
  have hil : i < vs.length := by omega
  have hgd : vs.getD i 0 = vs[i] := by rw [List.getD_eq_getElem?_getD, List.getElem?_eq_getElem hil]; rfl
  obtain ⟨g, rfl, hg, x0, f0⟩ := h.at i hil
  have hb1 := (Below.refl w.heap.size w).alloc (Nat.le_refl _) (.cells #[.int .i64 o.f0, .int .i64 o.f1, .int .i64 o.f2] 142)
  have H1 := Veil.mk (h.below hb1)
  have HX := Veil.mk ((Blk.new w #[.int .i64 o.f0, .int .i64 o.f1, .int .i64 o.f2] 142).cell 1 _ rfl)
  have c0 := H1.out.blk.cell 0 _ rfl
  have c1 := H1.out.blk.cell 1 _ rfl
  have f1 := H1.out.blk.free 1
  have x1 : (w.alloc (.cells #[.int .i64 o.f0, .int .i64 o.f1, .int .i64 o.f2] 142)).cell? ⟨g, i, none⟩ = some (.int .i64 vs[i]) := alloc_cell x0 _
  have e1 := HX.out
  have HU := Veil.mk (Upd.ofBelow hb1 (ofSolo b (some ⟨g, 0, none⟩)))
  rw [hi] at h0 h1 ⊢
  rw [Int.toNat_natCast, hgd]
  rw [hi] at e1 H1 c0 c1 f1 x1 HU
  obtain ⟨v, hv⟩ : ∃ v, vs[i] = v := ⟨_, rfl⟩
  rw [hv] at x1 ⊢
  clear h x0 f0 hb1 HX hgd hv hg
  go_enter Try.func83, Try.ntmps83
  go_wp2_with fail
  generalize w.alloc (.cells #[.int .i64 o.f0, .int .i64 i, .int .i64 o.f2] 142) = w1 at *
  refine wp_region_X (fun w' => w'.cell? ⟨b, 0, none⟩ = some (.slice (some ⟨g, 0, none⟩) vs.length c) ∧ w'.cell? ⟨b, 1, none⟩ = some (.int .i64 s) ∧ w'.frozen? ⟨b, 1, none⟩ = false ∧ w'.cell? ⟨w.heap.size, 1, none⟩ = some (.int .i64 i) ∧ w'.cell? ⟨g, i, none⟩ = some (.int .i64 v)) [11] (by kernel_rfl) ?_
  have hS0 : w1.drew.cell? ⟨b, 0, none⟩ = some (.slice (some ⟨g, 0, none⟩) vs.length c) ∧ w1.drew.cell? ⟨b, 1, none⟩ = some (.int .i64 s) ∧ w1.drew.frozen? ⟨b, 1, none⟩ = false ∧ w1.drew.cell? ⟨w.heap.size, 1, none⟩ = some (.int .i64 i) ∧ w1.drew.cell? ⟨g, i, none⟩ = some (.int .i64 v) := ⟨c0, c1, f1, e1, x1⟩
  refine wpAnyX_take3 (i := 0) (v := ?_) rfl (by kernel_rfl) (by kernel_rfl) (by kernel_rfl) (by kernel_rfl) (fun _ _ _ h => h) (Or.inl ⟨by rfl, ?_⟩) (by assumption) ?_
  rotate_left 1
  · intro w hSw; (try dsimp only at hSw); go_split_ands; (first | (go_simp; done) | (go_simp; with_reducible rfl))
  try simp only [Act.put, List.getElem_toArray, List.getElem_cons_zero, List.getElem_cons_succ, List.setIfInBounds_toArray, List.set_cons_zero, List.set_cons_succ]
  refine wpAnyX_take3 (i := 1) (v := ?_) rfl (by kernel_rfl) (by kernel_rfl) (by kernel_rfl) (by kernel_rfl) (fun _ _ _ h => h) (Or.inl ⟨by rfl, ?_⟩) (by assumption) ?_
  rotate_left 1
  · intro w hSw; (try dsimp only at hSw); go_split_ands; (first | (go_simp; done) | (go_simp; with_reducible rfl))
  try simp only [Act.put, List.getElem_toArray, List.getElem_cons_zero, List.getElem_cons_succ, List.setIfInBounds_toArray, List.set_cons_zero, List.set_cons_succ]
  refine wpAnyX_take3 (i := 2) (v := ?_) rfl (by kernel_rfl) (by kernel_rfl) (by kernel_rfl) (by kernel_rfl) (fun _ _ _ h => h) (Or.inl ⟨by rfl, ?_⟩) (by assumption) ?_
  rotate_left 1
  · intro w hSw; (try dsimp only at hSw); go_split_ands; (first | (go_simp; done) | (go_simp; with_reducible rfl))
  try simp only [Act.put, List.getElem_toArray, List.getElem_cons_zero, List.getElem_cons_succ, List.setIfInBounds_toArray, List.set_cons_zero, List.set_cons_succ]
  refine wpAnyX_take3 (i := 3) (v := ?_) rfl (by kernel_rfl) (by kernel_rfl) (by kernel_rfl) (by kernel_rfl) (fun _ _ _ h => h) (Or.inl ⟨by rfl, ?_⟩) (by assumption) ?_
  rotate_left 1
  · intro w hSw; (try dsimp only at hSw); go_split_ands; (first | (go_simp; done) | (go_simp; with_reducible rfl))
  try simp only [Act.put, List.getElem_toArray, List.getElem_cons_zero, List.getElem_cons_succ, List.setIfInBounds_toArray, List.set_cons_zero, List.set_cons_succ]
  refine wpAnyX_take3 (i := 4) (v := ?_) rfl (by kernel_rfl) (by kernel_rfl) (by kernel_rfl) (by kernel_rfl) (fun _ _ _ h => h) (Or.inl ⟨by rfl, ?_⟩) (by assumption) ?_
  rotate_left 1
  · intro w hSw; (try dsimp only at hSw); go_split_ands; (first | (go_simp; done) | (go_simp; with_reducible rfl))
  try simp only [Act.put, List.getElem_toArray, List.getElem_cons_zero, List.getElem_cons_succ, List.setIfInBounds_toArray, List.set_cons_zero, List.set_cons_succ]
  refine wpAnyX_take3 (i := 5) (v := ?_) rfl (by kernel_rfl) (by kernel_rfl) (by kernel_rfl) (by kernel_rfl) (fun _ _ _ h => h) (Or.inl ⟨by rfl, ?_⟩) (by assumption) ?_
  rotate_left 1
  · intro w hSw; (try dsimp only at hSw); go_split_ands; (first | (go_simp; done) | (go_simp; with_reducible rfl))
  try simp only [Act.put, List.getElem_toArray, List.getElem_cons_zero, List.getElem_cons_succ, List.setIfInBounds_toArray, List.set_cons_zero, List.set_cons_succ]
  refine wpAnyX_take3 (i := 6) (v := ?_) rfl (by kernel_rfl) (by kernel_rfl) (by kernel_rfl) (by kernel_rfl) (fun _ _ _ h => h) (Or.inl ⟨by rfl, ?_⟩) (by assumption) ?_
  rotate_left 1
  · intro w hSw; (try dsimp only at hSw); go_split_ands; (first | (go_simp; done) | (go_simp; with_reducible rfl))
  try simp only [Act.put, List.getElem_toArray, List.getElem_cons_zero, List.getElem_cons_succ, List.setIfInBounds_toArray, List.set_cons_zero, List.set_cons_succ]
  refine wpAnyX_take3 (i := 7) (v := ?_) rfl (by kernel_rfl) (by kernel_rfl) (by kernel_rfl) (by kernel_rfl) (fun _ _ _ h => h) (Or.inl ⟨by rfl, ?_⟩) (by assumption) ?_
  rotate_left 1
  · intro w hSw; (try dsimp only at hSw); go_split_ands; (first | (go_simp; done) | (go_simp; with_reducible rfl))
  try simp only [Act.put, List.getElem_toArray, List.getElem_cons_zero, List.getElem_cons_succ, List.setIfInBounds_toArray, List.set_cons_zero, List.set_cons_succ]
  refine wpAnyX_take3 (i := 8) (v := ?_) rfl (by kernel_rfl) (by kernel_rfl) (by kernel_rfl) (by kernel_rfl) (fun _ _ _ h => h) (Or.inl ⟨by rfl, ?_⟩) (by assumption) ?_
  rotate_left 1
  · intro w hSw; (try dsimp only at hSw); go_split_ands; (first | (go_simp; done) | (go_simp; with_reducible rfl))
  try simp only [Act.put, List.getElem_toArray, List.getElem_cons_zero, List.getElem_cons_succ, List.setIfInBounds_toArray, List.set_cons_zero, List.set_cons_succ]
  refine wpAnyX_take3 (i := 9) (v := ?_) rfl (by kernel_rfl) (by kernel_rfl) (by kernel_rfl) (by kernel_rfl) (fun _ _ _ h => h) (Or.inl ⟨by rfl, ?_⟩) (by assumption) ?_
  rotate_left 1
  · intro w hSw; (try dsimp only at hSw); go_split_ands; (first | (go_simp; done) | (go_simp; with_reducible rfl))
  try simp only [Act.put, List.getElem_toArray, List.getElem_cons_zero, List.getElem_cons_succ, List.setIfInBounds_toArray, List.set_cons_zero, List.set_cons_succ]
  refine wpAnyX_take3 (i := 10) (v := ?_) rfl (by kernel_rfl) (by kernel_rfl) (by kernel_rfl) (by kernel_rfl) (fun _ _ _ h => h) (Or.inl ⟨by rfl, ?_⟩) (by assumption) ?_
  rotate_left 1
  · intro w hSw; (try dsimp only at hSw); go_split_ands; (first | (go_simp; done) | (go_simp; with_reducible rfl))
  try simp only [Act.put, List.getElem_toArray, List.getElem_cons_zero, List.getElem_cons_succ, List.setIfInBounds_toArray, List.set_cons_zero, List.set_cons_succ]
  clear hS0
  refine wpAnyX_one (i := 11) (by kernel_rfl) rfl (fun K hK => ?_)
  go_simp
  refine hK.out _ _ (fun h => by cases h) ?_
  clear hK K
  refine wpAnyX_done (by kernel_rfl) ?_ _
  go_wp2
  go_end0
  exact ⟨rfl, (H1.out.below (Below.refl w1.heap.size w1).drew).sum v, HU.out.drew.setCell (fun _ => .inl rfl) _⟩

set_option maxHeartbeats 4000000 in
set_option maxRecDepth 100000 in
theorem write_any (w : World) (base b : Nat) (A : Option Addr) (c : Nat) (vs : List Int) (s : Int) (o : Op) (h : SoloAt w base b A c vs s) (h0 : 0 ≤ o.f1) (h1 : o.f1 < (vs.length : Int)) :
    Calls Try.prog 84 #[.pointer (some ⟨b, 0, none⟩), .agg #[.int .i64 o.f0, .int .i64 o.f1, .int .i64 o.f2]] w
      fun e w' => e = .returned (.tuple #[]) ∧ SoloAt w' base b A c (vs.set o.f1.toNat s) s ∧ Upd (ofSolo b A) w w' := by
  obtain ⟨i, hi⟩ : ∃ i : Nat, o.f1 = (i : Int) := ⟨o.f1.toNat, by omega⟩
  have hil : i < vs.length := by omega
  obtain ⟨g, rfl, hg, x0, f0⟩ := h.at i hil
  have hb1 := (Below.refl w.heap.size w).alloc (Nat.le_refl _) (.cells #[.int .i64 o.f0, .int .i64 o.f1, .int .i64 o.f2] 142)
  have H1 := Veil.mk (h.below hb1)
  have HX := Veil.mk ((Blk.new w #[.int .i64 o.f0, .int .i64 o.f1, .int .i64 o.f2] 142).cell 1 _ rfl)
  have c0 := H1.out.blk.cell 0 _ rfl
  have c1 := H1.out.blk.cell 1 _ rfl
  obtain ⟨g', hg', _, x1, f1⟩ := H1.out.at i hil
  injection hg' with hg'
  injection hg' with hg' _ _
  subst hg'
  have e1 := HX.out
  have HU := Veil.mk (Upd.ofBelow hb1 (ofSolo b (some ⟨g, 0, none⟩)))
  rw [hi] at h0 h1 ⊢
  rw [Int.toNat_natCast]
  rw [hi] at e1 H1 c0 c1 f1 x1 HU
  obtain ⟨v, hv⟩ : ∃ v, vs[i] = v := ⟨_, rfl⟩
  rw [hv] at x1
  have HG := Veil.mk hg
  clear h x0 f0 hb1 HX hv hg
  go_enter Try.func84, Try.ntmps84
  go_wp2_with fail
  generalize w.alloc (.cells #[.int .i64 o.f0, .int .i64 i, .int .i64 o.f2] 142) = w1 at *
  refine wp_region_X (fun w' => w'.cell? ⟨b, 0, none⟩ = some (.slice (some ⟨g, 0, none⟩) vs.length c) ∧ w'.cell? ⟨b, 1, none⟩ = some (.int .i64 s) ∧ w'.cell? ⟨w.heap.size, 1, none⟩ = some (.int .i64 i) ∧ w'.cell? ⟨g, i, none⟩ = some (.int .i64 v) ∧ w'.frozen? ⟨g, i, none⟩ = false) [11] (by kernel_rfl) ?_
  have hS0 : w1.drew.cell? ⟨b, 0, none⟩ = some (.slice (some ⟨g, 0, none⟩) vs.length c) ∧ w1.drew.cell? ⟨b, 1, none⟩ = some (.int .i64 s) ∧ w1.drew.cell? ⟨w.heap.size, 1, none⟩ = some (.int .i64 i) ∧ w1.drew.cell? ⟨g, i, none⟩ = some (.int .i64 v) ∧ w1.drew.frozen? ⟨g, i, none⟩ = false := ⟨c0, c1, e1, x1, f1⟩
  refine wpAnyX_take3 (i := 0) (v := ?_) rfl (by kernel_rfl) (by kernel_rfl) (by kernel_rfl) (by kernel_rfl) (fun _ _ _ h => h) (Or.inl ⟨by rfl, ?_⟩) (by assumption) ?_
  rotate_left 1
  · intro w hSw; (try dsimp only at hSw); go_split_ands; (first | (go_simp; done) | (go_simp; with_reducible rfl))
  try simp only [Act.put, List.getElem_toArray, List.getElem_cons_zero, List.getElem_cons_succ, List.setIfInBounds_toArray, List.set_cons_zero, List.set_cons_succ]
  refine wpAnyX_take3 (i := 1) (v := ?_) rfl (by kernel_rfl) (by kernel_rfl) (by kernel_rfl) (by kernel_rfl) (fun _ _ _ h => h) (Or.inl ⟨by rfl, ?_⟩) (by assumption) ?_
  rotate_left 1
  · intro w hSw; (try dsimp only at hSw); go_split_ands; (first | (go_simp; done) | (go_simp; with_reducible rfl))
  try simp only [Act.put, List.getElem_toArray, List.getElem_cons_zero, List.getElem_cons_succ, List.setIfInBounds_toArray, List.set_cons_zero, List.set_cons_succ]
  refine wpAnyX_take3 (i := 2) (v := ?_) rfl (by kernel_rfl) (by kernel_rfl) (by kernel_rfl) (by kernel_rfl) (fun _ _ _ h => h) (Or.inl ⟨by rfl, ?_⟩) (by assumption) ?_
  rotate_left 1
  · intro w hSw; (try dsimp only at hSw); go_split_ands; (first | (go_simp; done) | (go_simp; with_reducible rfl))
  try simp only [Act.put, List.getElem_toArray, List.getElem_cons_zero, List.getElem_cons_succ, List.setIfInBounds_toArray, List.set_cons_zero, List.set_cons_succ]
  refine wpAnyX_take3 (i := 3) (v := ?_) rfl (by kernel_rfl) (by kernel_rfl) (by kernel_rfl) (by kernel_rfl) (fun _ _ _ h => h) (Or.inl ⟨by rfl, ?_⟩) (by assumption) ?_
  rotate_left 1
  · intro w hSw; (try dsimp only at hSw); go_split_ands; (first | (go_simp; done) | (go_simp; with_reducible rfl))
  try simp only [Act.put, List.getElem_toArray, List.getElem_cons_zero, List.getElem_cons_succ, List.setIfInBounds_toArray, List.set_cons_zero, List.set_cons_succ]
  refine wpAnyX_take3 (i := 4) (v := ?_) rfl (by kernel_rfl) (by kernel_rfl) (by kernel_rfl) (by kernel_rfl) (fun _ _ _ h => h) (Or.inl ⟨by rfl, ?_⟩) (by assumption) ?_
  rotate_left 1
  · intro w hSw; (try dsimp only at hSw); go_split_ands; (first | (go_simp; done) | (go_simp; with_reducible rfl))
  try simp only [Act.put, List.getElem_toArray, List.getElem_cons_zero, List.getElem_cons_succ, List.setIfInBounds_toArray, List.set_cons_zero, List.set_cons_succ]
  refine wpAnyX_take3 (i := 5) (v := ?_) rfl (by kernel_rfl) (by kernel_rfl) (by kernel_rfl) (by kernel_rfl) (fun _ _ _ h => h) (Or.inl ⟨by rfl, ?_⟩) (by assumption) ?_
  rotate_left 1
  · intro w hSw; (try dsimp only at hSw); go_split_ands; (first | (go_simp; done) | (go_simp; with_reducible rfl))
  try simp only [Act.put, List.getElem_toArray, List.getElem_cons_zero, List.getElem_cons_succ, List.setIfInBounds_toArray, List.set_cons_zero, List.set_cons_succ]
  refine wpAnyX_take3 (i := 6) (v := ?_) rfl (by kernel_rfl) (by kernel_rfl) (by kernel_rfl) (by kernel_rfl) (fun _ _ _ h => h) (Or.inl ⟨by rfl, ?_⟩) (by assumption) ?_
  rotate_left 1
  · intro w hSw; (try dsimp only at hSw); go_split_ands; (first | (go_simp; done) | (go_simp; with_reducible rfl))
  try simp only [Act.put, List.getElem_toArray, List.getElem_cons_zero, List.getElem_cons_succ, List.setIfInBounds_toArray, List.set_cons_zero, List.set_cons_succ]
  refine wpAnyX_take3 (i := 7) (v := ?_) rfl (by kernel_rfl) (by kernel_rfl) (by kernel_rfl) (by kernel_rfl) (fun _ _ _ h => h) (Or.inl ⟨by rfl, ?_⟩) (by assumption) ?_
  rotate_left 1
  · intro w hSw; (try dsimp only at hSw); go_split_ands; (first | (go_simp; done) | (go_simp; with_reducible rfl))
  try simp only [Act.put, List.getElem_toArray, List.getElem_cons_zero, List.getElem_cons_succ, List.setIfInBounds_toArray, List.set_cons_zero, List.set_cons_succ]
  refine wpAnyX_take3 (i := 8) (v := ?_) rfl (by kernel_rfl) (by kernel_rfl) (by kernel_rfl) (by kernel_rfl) (fun _ _ _ h => h) (Or.inl ⟨by rfl, ?_⟩) (by assumption) ?_
  rotate_left 1
  · intro w hSw; (try dsimp only at hSw); go_split_ands; (first | (go_simp; done) | (go_simp; with_reducible rfl))
  try simp only [Act.put, List.getElem_toArray, List.getElem_cons_zero, List.getElem_cons_succ, List.setIfInBounds_toArray, List.set_cons_zero, List.set_cons_succ]
  refine wpAnyX_take3 (i := 9) (v := ?_) rfl (by kernel_rfl) (by kernel_rfl) (by kernel_rfl) (by kernel_rfl) (fun _ _ _ h => h) (Or.inl ⟨by rfl, ?_⟩) (by assumption) ?_
  rotate_left 1
  · intro w hSw; (try dsimp only at hSw); go_split_ands; (first | (go_simp; done) | (go_simp; with_reducible rfl))
  try simp only [Act.put, List.getElem_toArray, List.getElem_cons_zero, List.getElem_cons_succ, List.setIfInBounds_toArray, List.set_cons_zero, List.set_cons_succ]
  refine wpAnyX_take3 (i := 10) (v := ?_) rfl (by kernel_rfl) (by kernel_rfl) (by kernel_rfl) (by kernel_rfl) (fun _ _ _ h => h) (Or.inl ⟨by rfl, ?_⟩) (by assumption) ?_
  rotate_left 1
  · intro w hSw; (try dsimp only at hSw); go_split_ands; (first | (go_simp; done) | (go_simp; with_reducible rfl))
  try simp only [Act.put, List.getElem_toArray, List.getElem_cons_zero, List.getElem_cons_succ, List.setIfInBounds_toArray, List.set_cons_zero, List.set_cons_succ]
  clear hS0
  refine wpAnyX_one (i := 11) (by kernel_rfl) rfl (fun K hK => ?_)
  go_simp
  refine hK.out _ _ (fun h => by cases h) ?_
  clear hK K
  refine wpAnyX_done (by kernel_rfl) ?_ _
  go_wp2
  go_end0
  exact ⟨rfl, (H1.out.below (Below.refl w1.heap.size w1).drew).put HG.out i s, HU.out.drew.setCell (p := ⟨g, i, none⟩) (fun _ => .inr rfl) _⟩

set_option maxHeartbeats 4000000 in
set_option maxRecDepth 100000 in
theorem reckon_any (w : World) (base b : Nat) (A : Option Addr) (c : Nat) (vs : List Int) (s : Int) (o : Op) (h : SoloAt w base b A c vs s) :
    Calls Try.prog 85 #[.pointer (some ⟨b, 0, none⟩), .agg #[.int .i64 o.f0, .int .i64 o.f1, .int .i64 o.f2]] w
      fun e w' => e = .returned (.tuple #[]) ∧ SoloAt w' base b A c vs (sumO o s) ∧ Upd (ofSolo b A) w w' := by
  have hb1 := (Below.refl w.heap.size w).alloc (Nat.le_refl _) (.cells #[.int .i64 o.f0, .int .i64 o.f1, .int .i64 o.f2] 142)
  have H1 := Veil.mk (h.below hb1)
  have hX := Blk.new w #[.int .i64 o.f0, .int .i64 o.f1, .int .i64 o.f2] 142
  have c1 := H1.out.blk.cell 1 _ rfl
  have f1 := H1.out.blk.free 1
  have e0 := hX.cell 0 _ rfl
  have e1 := hX.cell 1 _ rfl
  have e2 := hX.cell 2 _ rfl
  have HLT := Veil.mk h.blk.lt
  have HU := Veil.mk (Upd.ofBelow hb1 (ofSolo b A))
  obtain ⟨r, hr⟩ : ∃ r, sumO o s = r := ⟨_, rfl⟩
  have HSM : Veil (∀ W, Calls Try.prog 109 #[.agg #[.int .i64 o.f0, .int .i64 o.f1, .int .i64 o.f2], .int .i64 s] W fun e w' => e = .returned (.int .i64 r) ∧ Below W.heap.size W w') := ⟨fun W => by rw [← hr]; exact sum_any W o s⟩
  rw [hr]
  clear h hb1 hX hr
  go_enter Try.func85, Try.ntmps85
  go_wp2_with fail
  generalize w.alloc (.cells #[.int .i64 o.f0, .int .i64 o.f1, .int .i64 o.f2] 142) = w1 at *
  refine wp_region_X (fun w' => w'.cell? ⟨b, 1, none⟩ = some (.int .i64 s) ∧ w'.frozen? ⟨b, 1, none⟩ = false ∧ w'.cell? ⟨w.heap.size, 0, none⟩ = some (.int .i64 o.f0) ∧ w'.cell? ⟨w.heap.size, 1, none⟩ = some (.int .i64 o.f1) ∧ w'.cell? ⟨w.heap.size, 2, none⟩ = some (.int .i64 o.f2)) [9] (by kernel_rfl) ?_
  have hS0 : w1.drew.cell? ⟨b, 1, none⟩ = some (.int .i64 s) ∧ w1.drew.frozen? ⟨b, 1, none⟩ = false ∧ w1.drew.cell? ⟨w.heap.size, 0, none⟩ = some (.int .i64 o.f0) ∧ w1.drew.cell? ⟨w.heap.size, 1, none⟩ = some (.int .i64 o.f1) ∧ w1.drew.cell? ⟨w.heap.size, 2, none⟩ = some (.int .i64 o.f2) := ⟨c1, f1, e0, e1, e2⟩
  refine wpAnyX_take3 (i := 0) (v := ?_) rfl (by kernel_rfl) (by kernel_rfl) (by kernel_rfl) (by kernel_rfl) (fun _ _ _ h => h) (Or.inl ⟨by rfl, ?_⟩) (by assumption) ?_
  rotate_left 1
  · intro w hSw; (try dsimp only at hSw); go_split_ands; (first | (go_simp; done) | (go_simp; with_reducible rfl))
  try simp only [Act.put, List.getElem_toArray, List.getElem_cons_zero, List.getElem_cons_succ, List.setIfInBounds_toArray, List.set_cons_zero, List.set_cons_succ]
  refine wpAnyX_take3 (i := 1) (v := ?_) rfl (by kernel_rfl) (by kernel_rfl) (by kernel_rfl) (by kernel_rfl) (fun _ _ _ h => h) (Or.inl ⟨by rfl, ?_⟩) (by assumption) ?_
  rotate_left 1
  · intro w hSw; (try dsimp only at hSw); go_split_ands; (first | (go_simp; done) | (go_simp; with_reducible rfl))
  try simp only [Act.put, List.getElem_toArray, List.getElem_cons_zero, List.getElem_cons_succ, List.setIfInBounds_toArray, List.set_cons_zero, List.set_cons_succ]
  refine wpAnyX_take3 (i := 2) (v := ?_) rfl (by kernel_rfl) (by kernel_rfl) (by kernel_rfl) (by kernel_rfl) (fun _ _ _ h => h) (Or.inl ⟨by rfl, ?_⟩) (by assumption) ?_
  rotate_left 1
  · intro w hSw; (try dsimp only at hSw); go_split_ands; (first | (go_simp; done) | (go_simp; with_reducible rfl))
  try simp only [Act.put, List.getElem_toArray, List.getElem_cons_zero, List.getElem_cons_succ, List.setIfInBounds_toArray, List.set_cons_zero, List.set_cons_succ]
  refine wpAnyX_take3 (i := 3) (v := ?_) rfl (by kernel_rfl) (by kernel_rfl) (by kernel_rfl) (by kernel_rfl) (fun _ _ _ h => h) (Or.inl ⟨by rfl, ?_⟩) (by assumption) ?_
  rotate_left 1
  · intro w hSw; (try dsimp only at hSw); go_split_ands; (first | (go_simp; done) | (go_simp; with_reducible rfl))
  try simp only [Act.put, List.getElem_toArray, List.getElem_cons_zero, List.getElem_cons_succ, List.setIfInBounds_toArray, List.set_cons_zero, List.set_cons_succ]
  refine wpAnyX_take3 (i := 4) (v := ?_) rfl (by kernel_rfl) (by kernel_rfl) (by kernel_rfl) (by kernel_rfl) (fun _ _ _ h => h) (Or.inl ⟨by rfl, ?_⟩) (by assumption) ?_
  rotate_left 1
  · intro w hSw; (try dsimp only at hSw); go_split_ands; (first | (go_simp; done) | (go_simp; with_reducible rfl))
  try simp only [Act.put, List.getElem_toArray, List.getElem_cons_zero, List.getElem_cons_succ, List.setIfInBounds_toArray, List.set_cons_zero, List.set_cons_succ]
  refine wpAnyX_take3 (i := 5) (v := ?_) rfl (by kernel_rfl) (by kernel_rfl) (by kernel_rfl) (by kernel_rfl) (fun _ _ _ h => h) (Or.inl ⟨by rfl, ?_⟩) (by assumption) ?_
  rotate_left 1
  · intro w hSw; (try dsimp only at hSw); go_split_ands; (first | (go_simp; done) | (go_simp; with_reducible rfl))
  try simp only [Act.put, List.getElem_toArray, List.getElem_cons_zero, List.getElem_cons_succ, List.setIfInBounds_toArray, List.set_cons_zero, List.set_cons_succ]
  clear hS0
  have HX0 := Veil.mk (Below.refl w1.heap.size w1).drew
  refine wpAnyX_one (i := 6) (by kernel_rfl) rfl (fun K hK => ?_)
  go_simp
  refine (HSM.out _).mono ?_
  rintro e8 w7 ⟨rfl, hb7⟩
  have HX7 := Veil.mk (HX0.out.trans hb7)
  have eC : ∀ o v, w1.cell? o = some v → w7.cell? o = some v := fun o v hv => (HX7.out.cell (p := o) (World.block_lt_of_cell? w1 _ hv)).trans hv
  have f7 : w7.frozen? ⟨b, 1, none⟩ = false := (HX7.out.frozen (p := ⟨b, 1, none⟩) (World.block_lt_of_cell? w1 _ c1)).trans f1
  have hS7 := And.intro (eC _ _ c1) (And.intro f7 (And.intro (eC _ _ e0) (And.intro (eC _ _ e1) (eC _ _ e2))))
  clear hb7 eC
  dsimp only
  refine hK.out _ _ (fun _ => hS7) ?_
  clear hK K
  try simp only [Act.put, List.getElem_toArray, List.getElem_cons_zero, List.getElem_cons_succ, List.setIfInBounds_toArray, List.set_cons_zero, List.set_cons_succ]
  refine wpAnyX_take3 (i := 7) (v := ?_) rfl (by kernel_rfl) (by kernel_rfl) (by kernel_rfl) (by kernel_rfl) (fun _ _ _ h => h) (Or.inl ⟨by rfl, ?_⟩) (by assumption) ?_
  rotate_left 1
  · intro w hSw; (try dsimp only at hSw); go_split_ands; (first | (go_simp; done) | (go_simp; with_reducible rfl))
  try simp only [Act.put, List.getElem_toArray, List.getElem_cons_zero, List.getElem_cons_succ, List.setIfInBounds_toArray, List.set_cons_zero, List.set_cons_succ]
  refine wpAnyX_take3 (i := 8) (v := ?_) rfl (by kernel_rfl) (by kernel_rfl) (by kernel_rfl) (by kernel_rfl) (fun _ _ _ h => h) (Or.inl ⟨by rfl, ?_⟩) (by assumption) ?_
  rotate_left 1
  · intro w hSw; (try dsimp only at hSw); go_split_ands; (first | (go_simp; done) | (go_simp; with_reducible rfl))
  try simp only [Act.put, List.getElem_toArray, List.getElem_cons_zero, List.getElem_cons_succ, List.setIfInBounds_toArray, List.set_cons_zero, List.set_cons_succ]
  obtain ⟨c17, _⟩ := hS7
  refine wpAnyX_one (i := 9) (by kernel_rfl) rfl (fun K hK => ?_)
  go_simp
  refine hK.out _ _ (fun h => by cases h) ?_
  clear hK K
  refine wpAnyX_done (by kernel_rfl) ?_ _
  go_wp2
  go_end0
  exact ⟨rfl, (H1.out.below HX7.out).sum r, (HU.out.trans (Upd.ofBelow HX7.out _)).setCell (fun _ => .inl rfl) _⟩
end Go.Proofs.Ytjmnbbflahacoaa.Lang
