/- hist, third part: a try in memory; access and release. No condition. -/
import Derived.Test.YtjmnbbflahacoaaHistB
import Derived.Test.YtjmnbbflahacoaaRegion
namespace Go.Proofs.Ytjmnbbflahacoaa.Hist
open Go.RowKit Go.Proofs.Ytjmnbbflahacoaa.Mem Go.Proofs.Ytjmnbbflahacoaa.PHistTells Go.Proofs.YtjmnbbflahacoaaW.PrintWords
set_option linter.unusedVariables false
set_option linter.unusedSimpArgs false

def evV (e : Ev) : Value := .agg #[.int .i64 e.f0, .int .i64 e.f1, .int .i64 e.f2, .int .i64 e.f3, .int .i64 e.f4, .int .i64 e.f5, .int .i64 e.f6]
def evC (e : Ev) : List Value := [.int .i64 e.f0, .int .i64 e.f1, .int .i64 e.f2, .int .i64 e.f3, .int .i64 e.f4, .int .i64 e.f5, .int .i64 e.f6]
def trC (t : Tr) (row : Value) : List Value := [.int .i64 t.f0, .int .i64 t.f1, .int .i64 t.f2, .int .i64 t.f3, .int .i64 t.f4, .int .i64 t.f5, .int .i64 t.f6, .bool t.f7, row]

/-- A try that lies in block b, its accesses' row the value row. -/
structure TryAt (w : World) (base b : Nat) (t : Tr) (row : Value) : Prop where
  blk : Blk w b 29 (trC t row)
  low : base ≤ b
  acc : kAcc.R 33 w base (fun _ => True) row t.f8

theorem TryAt.upd {S : Nat → Prop} {w w' : World} {base b : Nat} {t : Tr} {row : Value} (h : TryAt w base b t row) (hu : Upd S w w') (hn : ¬ S b) (hr : ∀ k, row.ownBlock = some k → ¬ S k) : TryAt w' base b t row :=
  ⟨h.blk.upd hu hn, h.low, by
    obtain ⟨inner, ho⟩ := Kd.R_own h.acc
    have h2 : kAcc.R 33 w base (fun k => row.ownBlock = some k) row t.f8 := Kd.R_tight (by rfl) h.acc |> fun h => Kd.R_mono h (fun k hk => hk.symm)
    exact Kd.R_mono (Kd.R_step h2 (fun k hk hlt => hu.block k hlt (hr k hk))) (fun _ _ => trivial)⟩

/-- An access, as it is put down. -/
def accOf (t : Tr) (i : Int) (e : Ev) : Acc := ⟨i, e.f0, e.f4, e.f5, e.f0 == 2 && t.f8.any (wrote e.f4), false⟩
def withAcc (t : Tr) (l : List Acc) : Tr := { t with f8 := l }

theorem info33 : (Try.prog.info? 33).map (fun i => (i.zero, i.size, i.bytes)) = some (some (.agg #[.int .i64 0, .int .i64 0, .int .i64 0, .int .i64 0, .bool false, .bool false]), 6, 40) := by kernel_rfl

theorem not_row {w : World} {base b : Nat} {t : Tr} {row : Value} (h : TryAt w base b t row) : some b ≠ row.ownBlock := by
  intro hr0
  have hr := hr0.symm
  · obtain ⟨inner, ho⟩ := Kd.R_own h.acc
    obtain ⟨cells, hc⟩ := own_typed ho b hr
    have := h.blk
    unfold Blk at this
    rw [hc] at this
    injection this with this
    injection this with _ this
    exact absurd this (by decide)
theorem row_lt {w : World} {base b : Nat} {t : Tr} {row : Value} (h : TryAt w base b t row) {k : Nat} (hk : row.ownBlock = some k) : k < w.heap.size := by
  obtain ⟨inner, ho⟩ := Kd.R_own h.acc
  exact own_lt ho k hk

theorem access_close {w w1 w2 : World} {base bt : Nat} {t : Tr} {A A1 : Option Addr} {c c1 : Nat} {x y : Acc} (HT : TryAt w base bt t (.slice A t.f8.length c)) (HW : Below w.heap.size w w1)
    (hg : w1.drew.grownBy w2 (Value.slice A t.f8.length c).ownBlock) (hBt : Blk w2 bt 29 (trC t (.slice A t.f8.length c))) (hx : y = x)
    (hR : kAcc.R 33 w2 base (fun _ => True) (.slice A1 (t.f8 ++ [x]).length c1) (t.f8 ++ [x]))
    (hat : (Value.slice A1 (t.f8 ++ [x]).length c1).ownBlock = (Value.slice A t.f8.length c).ownBlock ∨ ∃ b, (Value.slice A1 (t.f8 ++ [x]).length c1).ownBlock = some b ∧ w1.drew.heap.size ≤ b) :
    ∃ row', TryAt (w2.setCell ⟨bt, 8, none⟩ (.slice A1 (t.f8.length + 1) c1)) base bt (withAcc t (t.f8 ++ [y])) row' ∧ Upd (fun k => k = bt ∨ (Value.slice A t.f8.length c).ownBlock = some k) w (w2.setCell ⟨bt, 8, none⟩ (.slice A1 (t.f8.length + 1) c1)) ∧
      (row'.ownBlock = (Value.slice A t.f8.length c).ownBlock ∨ ∃ b, row'.ownBlock = some b ∧ w.heap.size ≤ b) := by
  subst hx
  have hl : (t.f8 ++ [y]).length = t.f8.length + 1 := by simp
  rw [hl] at hR hat
  have hne := Kd.R_ne hR hBt (by decide)
  refine ⟨.slice A1 (t.f8.length + 1) c1, ⟨hBt.set 8 _, HT.low, ?_⟩, (((Upd.ofBelow HW _).drew.grown hg (fun k hk _ => .inr hk)).setCell (fun _ => .inl rfl) _), ?_⟩
  · exact Kd.R_mono (Kd.R_far (p := ⟨bt, 8, none⟩) (Kd.R_tight (by rfl) hR) (fun k hk he => hne (by rw [← hk]; exact congrArg some he.symm)) _) (fun _ _ => trivial)
  · rcases hat with h | ⟨b, h, hb⟩
    · exact .inl h
    · exact .inr ⟨b, h, Nat.le_trans HW.size hb⟩

set_option maxHeartbeats 1600000 in
set_option maxRecDepth 100000 in
theorem access_any (w : World) (base bt : Nat) (t : Tr) (row : Value) (i : Int) (e : Ev) (hT : TryAt w base bt t row) (hl : t.f8.length ≤ 1000000000) (hbase : base ≤ w.heap.size) :
    Calls Try.prog 92 #[.pointer (some ⟨bt, 0, none⟩), .int .i64 i, .agg #[.int .i64 e.f0, .int .i64 e.f1, .int .i64 e.f2, .int .i64 e.f3, .int .i64 e.f4, .int .i64 e.f5, .int .i64 e.f6]] w
      fun ed w' => ed = .returned (.tuple #[]) ∧ ∃ row', TryAt w' base bt (withAcc t (t.f8 ++ [accOf t i e])) row' ∧ Upd (fun k => k = bt ∨ row.ownBlock = some k) w w' ∧ (row'.ownBlock = row.ownBlock ∨ ∃ b, row'.ownBlock = some b ∧ w.heap.size ≤ b) := by
  have hne := not_row hT
  have hne2 : some w.heap.size ≠ row.ownBlock := fun hk => Nat.lt_irrefl _ (row_lt hT hk.symm)
  obtain ⟨A, c, rfl, hc, hC⟩ := Kd.R_reads hT.acc
  have c8 := hT.blk.cell 8 _ rfl
  have hlt := hT.blk.lt
  have HT := Veil.mk hT
  have HC := Veil.mk hC
  have Hc := Veil.mk hc
  have HL := Veil.mk hl
  have HBs := Veil.mk hbase
  clear hT hC hc hl hbase
  by_cases h2 : e.f0 = 2
  · have e2 : (e.f0 == 2) = true := beq_iff_eq.2 h2
    clear h2
    have HEQ : Veil (accOf t i e = ⟨i, e.f0, e.f4, e.f5, t.f8.any (wrote e.f4), false⟩) := ⟨by unfold accOf; rw [e2]; rfl⟩
    go_enter Try.func92, Try.ntmps92
    have c8' := alloc_cell c8
    go_wp2_with (go_at_call 111; go_must (refine (contains_any _ A c t.f8 w.heap.size e.f4 (Kd.C_below HC.out ((Below.refl _ _).alloc (Nat.le_refl _) _)) Hc.out (by go_simp)).mono ?_); rintro ed w1 ⟨rfl, hbw⟩; have HE := Veil.mk ((Blk.new w _ 31).below hbw (by simp)); have HW := Veil.mk (below_of ((Below.refl _ _).alloc (Nat.le_refl _) _) hbw); clear hbw)
    clear c8'
    have lw1 := HW.out.size
    have HR := Veil.mk (Kd.R_below HT.out.acc HW.out)
    have cb8 : w1.cell? ⟨bt, 8, none⟩ = some (.slice A t.f8.length c) := (HW.out.cell (p := ⟨bt, 8, none⟩) hlt).trans c8
    have fb8 : w1.frozen? ⟨bt, 8, none⟩ = false := (HW.out.frozen (p := ⟨bt, 8, none⟩) hlt).trans (HT.out.blk.free 8)
    have ce0 : w1.cell? ⟨w.heap.size, 0, none⟩ = some (.int .i64 e.f0) := HE.out.cell 0 _ rfl
    have ce4 : w1.cell? ⟨w.heap.size, 4, none⟩ = some (.int .i64 e.f4) := HE.out.cell 4 _ rfl
    have ce5 : w1.cell? ⟨w.heap.size, 5, none⟩ = some (.int .i64 e.f5) := HE.out.cell 5 _ rfl
    have hbt : bt < w1.heap.size := Nat.lt_of_lt_of_le hlt lw1
    have hbe : w.heap.size < w1.heap.size := HE.out.lt
    have fb8' := alloc_frozen (a := ⟨bt, 8, none⟩) hbt fb8
    have HN1 := Veil.mk hne
    have HN2 := Veil.mk hne2
    clear hne hne2
    refine wp_region_X (fun w' => w'.cell? ⟨bt, 8, none⟩ = some (.slice A t.f8.length c) ∧ w'.frozen? ⟨bt, 8, none⟩ = false ∧ w'.cell? ⟨w.heap.size, 0, none⟩ = some (.int .i64 e.f0) ∧
        w'.cell? ⟨w.heap.size, 4, none⟩ = some (.int .i64 e.f4) ∧ w'.cell? ⟨w.heap.size, 5, none⟩ = some (.int .i64 e.f5)) [18] (by kernel_rfl) ?_
    have hS0 : w1.drew.cell? ⟨bt, 8, none⟩ = some (.slice A t.f8.length c) ∧ w1.drew.frozen? ⟨bt, 8, none⟩ = false ∧ w1.drew.cell? ⟨w.heap.size, 0, none⟩ = some (.int .i64 e.f0) ∧
        w1.drew.cell? ⟨w.heap.size, 4, none⟩ = some (.int .i64 e.f4) ∧ w1.drew.cell? ⟨w.heap.size, 5, none⟩ = some (.int .i64 e.f5) := ⟨cb8, fb8, ce0, ce4, ce5⟩
    refine wpAnyX_take (i := 0) (v := ?_) rfl (by kernel_rfl) (by kernel_rfl) (by kernel_rfl) (by kernel_rfl) (fun _ _ _ h => h) (Or.inl ⟨by rfl, ?_⟩) (by assumption) ?_
    rotate_left 1
    · intro w hSw; (try dsimp only at hSw); go_split_ands; (first | (go_simp; done) | (go_simp; with_reducible rfl))
    try simp only [Act.put, List.setIfInBounds_toArray, List.set_cons_zero, List.set_cons_succ]
    refine wpAnyX_take (i := 1) (v := ?_) rfl (by kernel_rfl) (by kernel_rfl) (by kernel_rfl) (by kernel_rfl) (fun _ _ _ h => h) (Or.inl ⟨by rfl, ?_⟩) (by assumption) ?_
    rotate_left 1
    · intro w hSw; (try dsimp only at hSw); go_split_ands; (first | (go_simp; done) | (go_simp; with_reducible rfl))
    try simp only [Act.put, List.setIfInBounds_toArray, List.set_cons_zero, List.set_cons_succ]
    refine wpAnyX_take (i := 2) (v := ?_) rfl (by kernel_rfl) (by kernel_rfl) (by kernel_rfl) (by kernel_rfl) (fun _ _ _ h => h) (Or.inl ⟨by rfl, ?_⟩) (by assumption) ?_
    rotate_left 1
    · intro w hSw; (try dsimp only at hSw); go_split_ands; (first | (go_simp; done) | (go_simp; with_reducible rfl))
    try simp only [Act.put, List.setIfInBounds_toArray, List.set_cons_zero, List.set_cons_succ]
    refine wpAnyX_take (i := 3) (v := ?_) rfl (by kernel_rfl) (by kernel_rfl) (by kernel_rfl) (by kernel_rfl) (fun _ _ _ h => h) (Or.inl ⟨by rfl, ?_⟩) (by assumption) ?_
    rotate_left 1
    · intro w hSw; (try dsimp only at hSw); go_split_ands; (first | (go_simp; done) | (go_simp; with_reducible rfl))
    try simp only [Act.put, List.setIfInBounds_toArray, List.set_cons_zero, List.set_cons_succ]
    refine wpAnyX_take (i := 4) (v := ?_) rfl (by kernel_rfl) (by kernel_rfl) (by kernel_rfl) (by kernel_rfl) (fun _ _ _ h => h) (Or.inl ⟨by rfl, ?_⟩) (by assumption) ?_
    rotate_left 1
    · intro w hSw; (try dsimp only at hSw); go_split_ands; (first | (go_simp; done) | (go_simp; with_reducible rfl))
    try simp only [Act.put, List.setIfInBounds_toArray, List.set_cons_zero, List.set_cons_succ]
    refine wpAnyX_take (i := 5) (v := ?_) rfl (by kernel_rfl) (by kernel_rfl) (by kernel_rfl) (by kernel_rfl) (fun _ _ _ h => h) (Or.inl ⟨by rfl, ?_⟩) (by assumption) ?_
    rotate_left 1
    · intro w hSw; (try dsimp only at hSw); go_split_ands; (first | (go_simp; done) | (go_simp; with_reducible rfl))
    try simp only [Act.put, List.setIfInBounds_toArray, List.set_cons_zero, List.set_cons_succ]
    refine wpAnyX_take (i := 6) (v := ?_) rfl (by kernel_rfl) (by kernel_rfl) (by kernel_rfl) (by kernel_rfl) (fun _ _ _ h => h) (Or.inl ⟨by rfl, ?_⟩) (by assumption) ?_
    rotate_left 1
    · intro w hSw; (try dsimp only at hSw); go_split_ands; (first | (go_simp; done) | (go_simp; with_reducible rfl))
    try simp only [Act.put, List.setIfInBounds_toArray, List.set_cons_zero, List.set_cons_succ]
    refine wpAnyX_take (i := 7) (v := ?_) rfl (by kernel_rfl) (by kernel_rfl) (by kernel_rfl) (by kernel_rfl) (fun _ _ _ h => h) (Or.inl ⟨by rfl, ?_⟩) (by assumption) ?_
    rotate_left 1
    · intro w hSw; (try dsimp only at hSw); go_split_ands; (first | (go_simp; done) | (go_simp; with_reducible rfl))
    try simp only [Act.put, List.setIfInBounds_toArray, List.set_cons_zero, List.set_cons_succ]
    refine wpAnyX_take (i := 8) (v := ?_) rfl (by kernel_rfl) (by kernel_rfl) (by kernel_rfl) (by kernel_rfl) (fun _ _ _ h => h) (Or.inl ⟨by rfl, ?_⟩) (by assumption) ?_
    rotate_left 1
    · intro w hSw; (try dsimp only at hSw); go_split_ands; (first | (go_simp; done) | (go_simp; with_reducible rfl))
    try simp only [Act.put, List.setIfInBounds_toArray, List.set_cons_zero, List.set_cons_succ]
    refine wpAnyX_take (i := 9) (v := ?_) rfl (by kernel_rfl) (by kernel_rfl) (by kernel_rfl) (by kernel_rfl) (fun _ _ _ h => h) (Or.inl ⟨by rfl, ?_⟩) (by assumption) ?_
    rotate_left 1
    · intro w hSw; (try dsimp only at hSw); go_split_ands; (first | (go_simp; done) | (go_simp; with_reducible rfl))
    try simp only [Act.put, List.setIfInBounds_toArray, List.set_cons_zero, List.set_cons_succ]
    refine wpAnyX_take (i := 10) (v := ?_) rfl (by kernel_rfl) (by kernel_rfl) (by kernel_rfl) (by kernel_rfl) (fun _ _ _ h => h) (Or.inl ⟨by rfl, ?_⟩) (by assumption) ?_
    rotate_left 1
    · intro w hSw; (try dsimp only at hSw); go_split_ands; (first | (go_simp; done) | (go_simp; with_reducible rfl))
    try simp only [Act.put, List.setIfInBounds_toArray, List.set_cons_zero, List.set_cons_succ]
    refine wpAnyX_take (i := 11) (v := ?_) rfl (by kernel_rfl) (by kernel_rfl) (by kernel_rfl) (by kernel_rfl) (fun _ _ _ h => h) (Or.inl ⟨by rfl, ?_⟩) (by assumption) ?_
    rotate_left 1
    · intro w hSw; (try dsimp only at hSw); go_split_ands; (first | (go_simp; done) | (go_simp; with_reducible rfl))
    try simp only [Act.put, List.setIfInBounds_toArray, List.set_cons_zero, List.set_cons_succ]
    refine wpAnyX_take (i := 12) (v := ?_) rfl (by kernel_rfl) (by kernel_rfl) (by kernel_rfl) (by kernel_rfl) (fun _ _ _ h => h) (Or.inl ⟨by rfl, ?_⟩) (by assumption) ?_
    rotate_left 1
    · intro w hSw; (try dsimp only at hSw); go_split_ands; (first | (go_simp; done) | (go_simp; with_reducible rfl))
    try simp only [Act.put, List.setIfInBounds_toArray, List.set_cons_zero, List.set_cons_succ]
    refine wpAnyX_take (i := 13) (v := ?_) rfl (by kernel_rfl) (by kernel_rfl) (by kernel_rfl) (by kernel_rfl) (fun _ _ _ h => h) (Or.inl ⟨by rfl, ?_⟩) (by assumption) ?_
    rotate_left 1
    · intro w hSw; (try dsimp only at hSw); go_split_ands; (first | (go_simp; done) | (go_simp; with_reducible rfl))
    try simp only [Act.put, List.setIfInBounds_toArray, List.set_cons_zero, List.set_cons_succ]
    clear hS0
    refine wpAnyX_one (i := 14) (by kernel_rfl) rfl (fun K hK => ?_)
    go_simp
    refine hK.out _ _ (fun _ => ⟨alloc_cell cb8 _, alloc_frozen (a := ⟨bt, 8, none⟩) hbt fb8 _, alloc_cell ce0 _, alloc_cell ce4 _, alloc_cell ce5 _⟩) ?_
    clear hK K
    refine wpAnyX_one (i := 15) (by kernel_rfl) rfl (fun K hK => ?_)
    rw [show ∀ o, (w1.alloc o).drew = w1.drew.alloc o from fun _ => rfl]
    refine Kd.R_append_step kAcc base (w0 := w1) rfl (.tmp 22) (.tmp 32) 27 33 (.agg #[.int .i64 0, .int .i64 0, .int .i64 0, .int .i64 0, .bool false, .bool false]) 40 rfl Try.underlying27 info33 rfl (by decide) (by omega) (.slice A t.f8.length c) t.f8 ⟨i, e.f0, e.f4, e.f5, t.f8.any (wrote e.f4), false⟩ _ (fun _ => True) (fun _ => False) rfl rfl (k33_mkM _ _ _ ⟨i, e.f0, e.f4, e.f5, t.f8.any (wrote e.f4), false⟩) (fun _ h => h.elim) (fun _ _ => trivial) HR.out (below_drew (Below.refl _ _)) (Nat.le_trans HBs.out lw1) (by have := HL.out; omega) ?_
    intro v1 w2 hR hB hg0 hat0
    have hg := Veil.mk hg0
    have hat := Veil.mk hat0
    have hRR := Veil.mk hR
    have cz8 : w2.cell? ⟨bt, 8, none⟩ = some (.slice A t.f8.length c) := (hg.out.cell_far ⟨bt, 8, none⟩ hbt HN1.out).trans cb8
    have fz8 : w2.frozen? ⟨bt, 8, none⟩ = false := (hg.out.frozen_far ⟨bt, 8, none⟩ hbt HN1.out).trans fb8
    have hBt : Veil (Blk w2 bt 29 (trC t (.slice A t.f8.length c))) := ⟨(hg.out.block bt hbt HN1.out).trans (HT.out.blk.below HW.out.drew hlt)⟩
    have HS2 := Veil.mk (And.intro cz8 (And.intro fz8 (And.intro ((hg.out.cell_far ⟨w.heap.size, 0, none⟩ hbe HN2.out).trans ce0) (And.intro ((hg.out.cell_far ⟨w.heap.size, 4, none⟩ hbe HN2.out).trans ce4) ((hg.out.cell_far ⟨w.heap.size, 5, none⟩ hbe HN2.out).trans ce5)))))
    refine hK.out _ _ (fun _ => HS2.out) ?_
    clear hK K
    obtain ⟨A1, c1, rfl, hc1, hC1⟩ := Kd.R_reads hR
    clear hg0 hat0 hR hB hc1 hC1 cb8 fb8 fb8' ce0 ce4 ce5 c8
    try simp only [Act.put, List.setIfInBounds_toArray, List.set_cons_zero, List.set_cons_succ]
    refine wpAnyX_one (i := 16) (by kernel_rfl) rfl (fun K hK => ?_)
    go_simp
    refine hK.out _ _ (fun _ => HS2.out) ?_
    clear hK K
    refine wpAnyX_one (i := 17) (by kernel_rfl) rfl (fun K hK => ?_)
    go_simp
    refine hK.out _ _ (fun _ => HS2.out) ?_
    clear hK K
    refine wpAnyX_one (i := 18) (by kernel_rfl) rfl (fun K hK => ?_)
    go_simp
    refine hK.out _ _ (fun h => by cases h) ?_
    clear hK K
    refine wpAnyX_done (by kernel_rfl) ?_ _
    go_wp2
    go_end0
    exact ⟨rfl, access_close HT.out HW.out hg.out hBt.out HEQ.out hRR.out hat.out⟩
  · have e2 : (e.f0 == 2) = false := beq_eq_false_iff_ne.2 h2
    clear h2
    have HEQ : Veil (accOf t i e = ⟨i, e.f0, e.f4, e.f5, false, false⟩) := ⟨by unfold accOf; rw [e2]; rfl⟩
    go_enter Try.func92, Try.ntmps92
    go_wp2_with fail
    have HE0 := Blk.new w #[.int .i64 e.f0, .int .i64 e.f1, .int .i64 e.f2, .int .i64 e.f3, .int .i64 e.f4, .int .i64 e.f5, .int .i64 e.f6] 31
    have HW0 := (Below.refl w.heap.size w).alloc (Nat.le_refl _) (.cells #[.int .i64 e.f0, .int .i64 e.f1, .int .i64 e.f2, .int .i64 e.f3, .int .i64 e.f4, .int .i64 e.f5, .int .i64 e.f6] 31)
    generalize w.alloc (.cells #[.int .i64 e.f0, .int .i64 e.f1, .int .i64 e.f2, .int .i64 e.f3, .int .i64 e.f4, .int .i64 e.f5, .int .i64 e.f6] 31) = w1 at *
    have HE := Veil.mk HE0
    have HW := Veil.mk HW0
    clear HE0 HW0
    have lw1 := HW.out.size
    have HR := Veil.mk (Kd.R_below HT.out.acc HW.out)
    have cb8 : w1.cell? ⟨bt, 8, none⟩ = some (.slice A t.f8.length c) := (HW.out.cell (p := ⟨bt, 8, none⟩) hlt).trans c8
    have fb8 : w1.frozen? ⟨bt, 8, none⟩ = false := (HW.out.frozen (p := ⟨bt, 8, none⟩) hlt).trans (HT.out.blk.free 8)
    have ce0 : w1.cell? ⟨w.heap.size, 0, none⟩ = some (.int .i64 e.f0) := HE.out.cell 0 _ rfl
    have ce4 : w1.cell? ⟨w.heap.size, 4, none⟩ = some (.int .i64 e.f4) := HE.out.cell 4 _ rfl
    have ce5 : w1.cell? ⟨w.heap.size, 5, none⟩ = some (.int .i64 e.f5) := HE.out.cell 5 _ rfl
    have hbt : bt < w1.heap.size := Nat.lt_of_lt_of_le hlt lw1
    have hbe : w.heap.size < w1.heap.size := HE.out.lt
    have fb8' := alloc_frozen (a := ⟨bt, 8, none⟩) hbt fb8
    have HN1 := Veil.mk hne
    have HN2 := Veil.mk hne2
    clear hne hne2
    refine wp_region_X (fun w' => w'.cell? ⟨bt, 8, none⟩ = some (.slice A t.f8.length c) ∧ w'.frozen? ⟨bt, 8, none⟩ = false ∧ w'.cell? ⟨w.heap.size, 0, none⟩ = some (.int .i64 e.f0) ∧
        w'.cell? ⟨w.heap.size, 4, none⟩ = some (.int .i64 e.f4) ∧ w'.cell? ⟨w.heap.size, 5, none⟩ = some (.int .i64 e.f5)) [18] (by kernel_rfl) ?_
    have hS0 : w1.drew.cell? ⟨bt, 8, none⟩ = some (.slice A t.f8.length c) ∧ w1.drew.frozen? ⟨bt, 8, none⟩ = false ∧ w1.drew.cell? ⟨w.heap.size, 0, none⟩ = some (.int .i64 e.f0) ∧
        w1.drew.cell? ⟨w.heap.size, 4, none⟩ = some (.int .i64 e.f4) ∧ w1.drew.cell? ⟨w.heap.size, 5, none⟩ = some (.int .i64 e.f5) := ⟨cb8, fb8, ce0, ce4, ce5⟩
    refine wpAnyX_take (i := 0) (v := ?_) rfl (by kernel_rfl) (by kernel_rfl) (by kernel_rfl) (by kernel_rfl) (fun _ _ _ h => h) (Or.inl ⟨by rfl, ?_⟩) (by assumption) ?_
    rotate_left 1
    · intro w hSw; (try dsimp only at hSw); go_split_ands; (first | (go_simp; done) | (go_simp; with_reducible rfl))
    try simp only [Act.put, List.setIfInBounds_toArray, List.set_cons_zero, List.set_cons_succ]
    refine wpAnyX_take (i := 1) (v := ?_) rfl (by kernel_rfl) (by kernel_rfl) (by kernel_rfl) (by kernel_rfl) (fun _ _ _ h => h) (Or.inl ⟨by rfl, ?_⟩) (by assumption) ?_
    rotate_left 1
    · intro w hSw; (try dsimp only at hSw); go_split_ands; (first | (go_simp; done) | (go_simp; with_reducible rfl))
    try simp only [Act.put, List.setIfInBounds_toArray, List.set_cons_zero, List.set_cons_succ]
    refine wpAnyX_take (i := 2) (v := ?_) rfl (by kernel_rfl) (by kernel_rfl) (by kernel_rfl) (by kernel_rfl) (fun _ _ _ h => h) (Or.inl ⟨by rfl, ?_⟩) (by assumption) ?_
    rotate_left 1
    · intro w hSw; (try dsimp only at hSw); go_split_ands; (first | (go_simp; done) | (go_simp; with_reducible rfl))
    try simp only [Act.put, List.setIfInBounds_toArray, List.set_cons_zero, List.set_cons_succ]
    refine wpAnyX_take (i := 3) (v := ?_) rfl (by kernel_rfl) (by kernel_rfl) (by kernel_rfl) (by kernel_rfl) (fun _ _ _ h => h) (Or.inl ⟨by rfl, ?_⟩) (by assumption) ?_
    rotate_left 1
    · intro w hSw; (try dsimp only at hSw); go_split_ands; (first | (go_simp; done) | (go_simp; with_reducible rfl))
    try simp only [Act.put, List.setIfInBounds_toArray, List.set_cons_zero, List.set_cons_succ]
    refine wpAnyX_take (i := 4) (v := ?_) rfl (by kernel_rfl) (by kernel_rfl) (by kernel_rfl) (by kernel_rfl) (fun _ _ _ h => h) (Or.inl ⟨by rfl, ?_⟩) (by assumption) ?_
    rotate_left 1
    · intro w hSw; (try dsimp only at hSw); go_split_ands; (first | (go_simp; done) | (go_simp; with_reducible rfl))
    try simp only [Act.put, List.setIfInBounds_toArray, List.set_cons_zero, List.set_cons_succ]
    refine wpAnyX_take (i := 5) (v := ?_) rfl (by kernel_rfl) (by kernel_rfl) (by kernel_rfl) (by kernel_rfl) (fun _ _ _ h => h) (Or.inl ⟨by rfl, ?_⟩) (by assumption) ?_
    rotate_left 1
    · intro w hSw; (try dsimp only at hSw); go_split_ands; (first | (go_simp; done) | (go_simp; with_reducible rfl))
    try simp only [Act.put, List.setIfInBounds_toArray, List.set_cons_zero, List.set_cons_succ]
    refine wpAnyX_take (i := 6) (v := ?_) rfl (by kernel_rfl) (by kernel_rfl) (by kernel_rfl) (by kernel_rfl) (fun _ _ _ h => h) (Or.inl ⟨by rfl, ?_⟩) (by assumption) ?_
    rotate_left 1
    · intro w hSw; (try dsimp only at hSw); go_split_ands; (first | (go_simp; done) | (go_simp; with_reducible rfl))
    try simp only [Act.put, List.setIfInBounds_toArray, List.set_cons_zero, List.set_cons_succ]
    refine wpAnyX_take (i := 7) (v := ?_) rfl (by kernel_rfl) (by kernel_rfl) (by kernel_rfl) (by kernel_rfl) (fun _ _ _ h => h) (Or.inl ⟨by rfl, ?_⟩) (by assumption) ?_
    rotate_left 1
    · intro w hSw; (try dsimp only at hSw); go_split_ands; (first | (go_simp; done) | (go_simp; with_reducible rfl))
    try simp only [Act.put, List.setIfInBounds_toArray, List.set_cons_zero, List.set_cons_succ]
    refine wpAnyX_take (i := 8) (v := ?_) rfl (by kernel_rfl) (by kernel_rfl) (by kernel_rfl) (by kernel_rfl) (fun _ _ _ h => h) (Or.inl ⟨by rfl, ?_⟩) (by assumption) ?_
    rotate_left 1
    · intro w hSw; (try dsimp only at hSw); go_split_ands; (first | (go_simp; done) | (go_simp; with_reducible rfl))
    try simp only [Act.put, List.setIfInBounds_toArray, List.set_cons_zero, List.set_cons_succ]
    refine wpAnyX_take (i := 9) (v := ?_) rfl (by kernel_rfl) (by kernel_rfl) (by kernel_rfl) (by kernel_rfl) (fun _ _ _ h => h) (Or.inl ⟨by rfl, ?_⟩) (by assumption) ?_
    rotate_left 1
    · intro w hSw; (try dsimp only at hSw); go_split_ands; (first | (go_simp; done) | (go_simp; with_reducible rfl))
    try simp only [Act.put, List.setIfInBounds_toArray, List.set_cons_zero, List.set_cons_succ]
    refine wpAnyX_take (i := 10) (v := ?_) rfl (by kernel_rfl) (by kernel_rfl) (by kernel_rfl) (by kernel_rfl) (fun _ _ _ h => h) (Or.inl ⟨by rfl, ?_⟩) (by assumption) ?_
    rotate_left 1
    · intro w hSw; (try dsimp only at hSw); go_split_ands; (first | (go_simp; done) | (go_simp; with_reducible rfl))
    try simp only [Act.put, List.setIfInBounds_toArray, List.set_cons_zero, List.set_cons_succ]
    refine wpAnyX_take (i := 11) (v := ?_) rfl (by kernel_rfl) (by kernel_rfl) (by kernel_rfl) (by kernel_rfl) (fun _ _ _ h => h) (Or.inl ⟨by rfl, ?_⟩) (by assumption) ?_
    rotate_left 1
    · intro w hSw; (try dsimp only at hSw); go_split_ands; (first | (go_simp; done) | (go_simp; with_reducible rfl))
    try simp only [Act.put, List.setIfInBounds_toArray, List.set_cons_zero, List.set_cons_succ]
    refine wpAnyX_take (i := 12) (v := ?_) rfl (by kernel_rfl) (by kernel_rfl) (by kernel_rfl) (by kernel_rfl) (fun _ _ _ h => h) (Or.inl ⟨by rfl, ?_⟩) (by assumption) ?_
    rotate_left 1
    · intro w hSw; (try dsimp only at hSw); go_split_ands; (first | (go_simp; done) | (go_simp; with_reducible rfl))
    try simp only [Act.put, List.setIfInBounds_toArray, List.set_cons_zero, List.set_cons_succ]
    refine wpAnyX_take (i := 13) (v := ?_) rfl (by kernel_rfl) (by kernel_rfl) (by kernel_rfl) (by kernel_rfl) (fun _ _ _ h => h) (Or.inl ⟨by rfl, ?_⟩) (by assumption) ?_
    rotate_left 1
    · intro w hSw; (try dsimp only at hSw); go_split_ands; (first | (go_simp; done) | (go_simp; with_reducible rfl))
    try simp only [Act.put, List.setIfInBounds_toArray, List.set_cons_zero, List.set_cons_succ]
    clear hS0
    refine wpAnyX_one (i := 14) (by kernel_rfl) rfl (fun K hK => ?_)
    go_simp
    refine hK.out _ _ (fun _ => ⟨alloc_cell cb8 _, alloc_frozen (a := ⟨bt, 8, none⟩) hbt fb8 _, alloc_cell ce0 _, alloc_cell ce4 _, alloc_cell ce5 _⟩) ?_
    clear hK K
    refine wpAnyX_one (i := 15) (by kernel_rfl) rfl (fun K hK => ?_)
    rw [show ∀ o, (w1.alloc o).drew = w1.drew.alloc o from fun _ => rfl]
    refine Kd.R_append_step kAcc base (w0 := w1) rfl (.tmp 22) (.tmp 32) 27 33 (.agg #[.int .i64 0, .int .i64 0, .int .i64 0, .int .i64 0, .bool false, .bool false]) 40 rfl Try.underlying27 info33 rfl (by decide) (by omega) (.slice A t.f8.length c) t.f8 ⟨i, e.f0, e.f4, e.f5, false, false⟩ _ (fun _ => True) (fun _ => False) rfl rfl (k33_mkM _ _ _ ⟨i, e.f0, e.f4, e.f5, false, false⟩) (fun _ h => h.elim) (fun _ _ => trivial) HR.out (below_drew (Below.refl _ _)) (Nat.le_trans HBs.out lw1) (by have := HL.out; omega) ?_
    intro v1 w2 hR hB hg0 hat0
    have hg := Veil.mk hg0
    have hat := Veil.mk hat0
    have hRR := Veil.mk hR
    have cz8 : w2.cell? ⟨bt, 8, none⟩ = some (.slice A t.f8.length c) := (hg.out.cell_far ⟨bt, 8, none⟩ hbt HN1.out).trans cb8
    have fz8 : w2.frozen? ⟨bt, 8, none⟩ = false := (hg.out.frozen_far ⟨bt, 8, none⟩ hbt HN1.out).trans fb8
    have hBt : Veil (Blk w2 bt 29 (trC t (.slice A t.f8.length c))) := ⟨(hg.out.block bt hbt HN1.out).trans (HT.out.blk.below HW.out.drew hlt)⟩
    have HS2 := Veil.mk (And.intro cz8 (And.intro fz8 (And.intro ((hg.out.cell_far ⟨w.heap.size, 0, none⟩ hbe HN2.out).trans ce0) (And.intro ((hg.out.cell_far ⟨w.heap.size, 4, none⟩ hbe HN2.out).trans ce4) ((hg.out.cell_far ⟨w.heap.size, 5, none⟩ hbe HN2.out).trans ce5)))))
    refine hK.out _ _ (fun _ => HS2.out) ?_
    clear hK K
    obtain ⟨A1, c1, rfl, hc1, hC1⟩ := Kd.R_reads hR
    clear hg0 hat0 hR hB hc1 hC1 cb8 fb8 fb8' ce0 ce4 ce5 c8
    try simp only [Act.put, List.setIfInBounds_toArray, List.set_cons_zero, List.set_cons_succ]
    refine wpAnyX_one (i := 16) (by kernel_rfl) rfl (fun K hK => ?_)
    go_simp
    refine hK.out _ _ (fun _ => HS2.out) ?_
    clear hK K
    refine wpAnyX_one (i := 17) (by kernel_rfl) rfl (fun K hK => ?_)
    go_simp
    refine hK.out _ _ (fun _ => HS2.out) ?_
    clear hK K
    refine wpAnyX_one (i := 18) (by kernel_rfl) rfl (fun K hK => ?_)
    go_simp
    refine hK.out _ _ (fun h => by cases h) ?_
    clear hK K
    refine wpAnyX_done (by kernel_rfl) ?_ _
    go_wp2
    go_end0
    exact ⟨rfl, access_close HT.out HW.out hg.out hBt.out HEQ.out hRR.out hat.out⟩
end Go.Proofs.Ytjmnbbflahacoaa.Hist
