/- hist, fourteenth part: those that committed: what asks, and the order by ends. No condition. -/
import Derived.Test.YtjmnbbflahacoaaHistM
import Derived.Outline
import Derived.Test.YtjmnbbflahacoaaShelf
namespace Go.Proofs.Ytjmnbbflahacoaa.Hist
open Go.RowKit Go.ChangeMaps Go.Maps Go.Proofs.Ytjmnbbflahacoaa.Mem Go.Proofs.Ytjmnbbflahacoaa.PHistTells Go.Proofs.YtjmnbbflahacoaaW.PrintWords
set_option linter.unusedVariables false
set_option linter.unusedSimpArgs false

set_option maxRecDepth 100000 in
theorem commits1_any (w : World) (base b : Nat) (t : Tr) (row : Value) (hT : TryAt w base b t row) : Calls Try.prog 57 #[.pointer (some ⟨b, 0, none⟩)] w fun e w' => e = .returned (.bool t.f7) ∧ Below w.heap.size w w' := by
  have t7 := hT.blk.cell 7 _ rfl
  clear hT
  go_enter Try.func57, Try.ntmps57
  go_wp2
  go_ret
  exact ⟨rfl, Below.refl _ _⟩

/-- A try's cells, its accesses' row at an address. -/
abbrev TrV := Tr × Option Addr × Nat
def encT (x : TrV) : List Value := trC x.1 (.slice x.2.1 x.1.f8.length x.2.2)
instance : Inhabited TrV := ⟨(z29, none, 0)⟩
def cmpEnd (x y : TrV) : Int := Lib.compareInt x.1.f5 y.1.f5

set_option maxRecDepth 100000 in
theorem end_any (W : World) (x : TrV) : Calls Try.prog 58 #[.agg (encT x).toArray] W fun e w' => e = .returned (.int .i64 x.1.f5) ∧ ∃ os, w' = Go.Sort.grow W os := by
  unfold encT trC
  go_enter Try.func58, Try.ntmps58
  go_wp2
  go_ret
  exact ⟨rfl, _, Go.Sort.alloc_eq_grow _ _⟩

/-- What the comparison loads, at whatever world. -/
def commits2_P (W : World) (bb : Nat) (x y : TrV) (w' : World) : Prop := w'.cell? ⟨bb, 0, none⟩ = some (.func (.func 58) #[] #[]) ∧
  (w'.cell? ⟨W.heap.size, 0, none⟩ = some (.int .i64 x.1.f0) ∧ w'.cell? ⟨W.heap.size, 1, none⟩ = some (.int .i64 x.1.f1) ∧ w'.cell? ⟨W.heap.size, 2, none⟩ = some (.int .i64 x.1.f2) ∧ w'.cell? ⟨W.heap.size, 3, none⟩ = some (.int .i64 x.1.f3) ∧ w'.cell? ⟨W.heap.size, 4, none⟩ = some (.int .i64 x.1.f4) ∧ w'.cell? ⟨W.heap.size, 5, none⟩ = some (.int .i64 x.1.f5) ∧
    w'.cell? ⟨W.heap.size, 6, none⟩ = some (.int .i64 x.1.f6) ∧ w'.cell? ⟨W.heap.size, 7, none⟩ = some (.bool x.1.f7) ∧ w'.cell? ⟨W.heap.size, 8, none⟩ = some (.slice x.2.1 x.1.f8.length x.2.2)) ∧
  (w'.cell? ⟨W.heap.size + 1, 0, none⟩ = some (.int .i64 y.1.f0) ∧ w'.cell? ⟨W.heap.size + 1, 1, none⟩ = some (.int .i64 y.1.f1) ∧ w'.cell? ⟨W.heap.size + 1, 2, none⟩ = some (.int .i64 y.1.f2) ∧ w'.cell? ⟨W.heap.size + 1, 3, none⟩ = some (.int .i64 y.1.f3) ∧ w'.cell? ⟨W.heap.size + 1, 4, none⟩ = some (.int .i64 y.1.f4) ∧ w'.cell? ⟨W.heap.size + 1, 5, none⟩ = some (.int .i64 y.1.f5) ∧
    w'.cell? ⟨W.heap.size + 1, 6, none⟩ = some (.int .i64 y.1.f6) ∧ w'.cell? ⟨W.heap.size + 1, 7, none⟩ = some (.bool y.1.f7) ∧ w'.cell? ⟨W.heap.size + 1, 8, none⟩ = some (.slice y.2.1 y.1.f8.length y.2.2))
theorem commits2_S (W : World) (bb : Nat) (x y : TrV) (hb : W.cell? ⟨bb, 0, none⟩ = some (.func (.func 58) #[] #[])) :
    commits2_P W bb x y (((W.alloc (.cells (encT x).toArray 29)).alloc (.cells (encT y).toArray 29)).drew) := by
  have h1 : Blk (((W.alloc (.cells (encT x).toArray 29)).alloc (.cells (encT y).toArray 29)).drew) W.heap.size 29 (encT x) := by
    have := (Blk.new W (encT x).toArray 29).alloc (.cells (encT y).toArray 29)
    exact this
  have h2 : Blk (((W.alloc (.cells (encT x).toArray 29)).alloc (.cells (encT y).toArray 29)).drew) (W.heap.size + 1) 29 (encT y) := by
    have := Blk.new (W.alloc (.cells (encT x).toArray 29)) (encT y).toArray 29
    rw [show (W.alloc (.cells (encT x).toArray 29)).heap.size = W.heap.size + 1 by simp] at this
    exact this
  exact ⟨alloc_cell (alloc_cell hb _) _, ⟨h1.cell 0 _ rfl, h1.cell 1 _ rfl, h1.cell 2 _ rfl, h1.cell 3 _ rfl, h1.cell 4 _ rfl, h1.cell 5 _ rfl, h1.cell 6 _ rfl, h1.cell 7 _ rfl, h1.cell 8 _ rfl⟩,
    ⟨h2.cell 0 _ rfl, h2.cell 1 _ rfl, h2.cell 2 _ rfl, h2.cell 3 _ rfl, h2.cell 4 _ rfl, h2.cell 5 _ rfl, h2.cell 6 _ rfl, h2.cell 7 _ rfl, h2.cell 8 _ rfl⟩⟩

theorem grown_two (W : World) (o o' : Obj) (os1 os2 : Array Obj) : Go.Sort.grow (Go.Sort.grow ((W.alloc o).alloc o').drew os1) os2 = Go.Sort.grow (W.drewN 1) ((#[o] ++ #[o']) ++ (os1 ++ os2)) := by
  rw [Go.Sort.alloc_eq_grow, Go.Sort.alloc_eq_grow, Go.Sort.drew_grow, Go.Sort.drew_grow, Go.Sort.grow_grow, Go.Sort.grow_grow, Go.Sort.grow_grow, Array.append_assoc]
  rfl
theorem cell_grow {w : World} {a : Addr} {v : Value} {os : Array Obj} (h : w.cell? a = some v) : (Go.Sort.grow w os).cell? a = some v := (Go.Sort.cell?_grow w os a (World.block_lt_of_cell? w a h)).trans h
theorem commits2_grow {W : World} {bb : Nat} {x y : TrV} {w : World} {os : Array Obj} (h : commits2_P W bb x y w) : commits2_P W bb x y (Go.Sort.grow w os) := by
  obtain ⟨h0, ⟨a0, a1, a2, a3, a4, a5, a6, a7, a8⟩, b0, b1, b2, b3, b4, b5, b6, b7, b8⟩ := h
  exact ⟨cell_grow h0, ⟨cell_grow a0, cell_grow a1, cell_grow a2, cell_grow a3, cell_grow a4, cell_grow a5, cell_grow a6, cell_grow a7, cell_grow a8⟩, cell_grow b0, cell_grow b1, cell_grow b2, cell_grow b3, cell_grow b4, cell_grow b5, cell_grow b6, cell_grow b7, cell_grow b8⟩

set_option maxHeartbeats 1600000 in
set_option maxRecDepth 100000 in
theorem commits2_any (W : World) (bb : Nat) (x y : TrV) (hb : W.cell? ⟨bb, 0, none⟩ = some (.func (.func 58) #[] #[])) :
    Calls Try.prog 60 #[.agg (encT x).toArray, .agg (encT y).toArray, .pointer (some ⟨bb, 0, none⟩)] W fun e w' => e = .returned (.int .i64 (cmpEnd x y)) ∧ ∃ q os, w' = Go.Sort.grow (W.drewN q) os := by
  have hcon := fun W' => AnyG.cmp_Compare_int Try.cmpInt x.1.f5 y.1.f5 W'
  change ∀ W', Calls Try.prog 61 _ _ _ at hcon
  have HC := Veil.mk hcon
  have hex := fun W' => end_any W' x
  have hey := fun W' => end_any W' y
  have b1 := fun o => alloc_cell hb o
  have b2 := fun o o' => alloc_cell (alloc_cell hb o) o'
  unfold encT trC at hex hey ⊢
  have HX := Veil.mk hex
  have HY := Veil.mk hey
  clear hcon hex hey
  unfold cmpEnd
  go_enter Try.func60, Try.ntmps60
  go_wp2_with fail
  have hS := commits2_S W bb x y hb
  unfold encT trC at hS
  refine wp_region_X (fun w' => commits2_P W bb x y w') [5, 6, 7] (by kernel_rfl) ?_
  have hS0 : commits2_P W bb x y (((W.alloc (.cells #[.int .i64 x.1.f0, .int .i64 x.1.f1, .int .i64 x.1.f2, .int .i64 x.1.f3, .int .i64 x.1.f4, .int .i64 x.1.f5, .int .i64 x.1.f6, .bool x.1.f7, .slice x.2.1 x.1.f8.length x.2.2] 29)).alloc (.cells #[.int .i64 y.1.f0, .int .i64 y.1.f1, .int .i64 y.1.f2, .int .i64 y.1.f3, .int .i64 y.1.f4, .int .i64 y.1.f5, .int .i64 y.1.f6, .bool y.1.f7, .slice y.2.1 y.1.f8.length y.2.2] 29)).drew) := hS
  unfold commits2_P at hS0 ⊢
  refine wpAnyX_take (i := 0) (v := ?_) rfl (by kernel_rfl) (by kernel_rfl) (by kernel_rfl) (by kernel_rfl) (fun _ _ _ h => h) (Or.inl ⟨by rfl, ?_⟩) (by assumption) ?_
  rotate_left 1
  · intro w hSw; (try dsimp only at hSw); go_split_ands; (first | (go_simp; done) | (go_simp; with_reducible rfl))
  try simp only [Act.put, List.setIfInBounds_toArray, List.set_cons_zero, List.set_cons_succ]
  refine wpAnyX_take (i := 1) (v := ?_) rfl (by kernel_rfl) (by kernel_rfl) (by kernel_rfl) (by kernel_rfl) (fun _ _ _ h => h) (Or.inl ⟨by rfl, ?_⟩) (by assumption) ?_
  rotate_left 1
  · intro w hSw; (try dsimp only at hSw); go_split_ands; (first | (go_simp; done) | (go_simp; with_reducible rfl))
  try simp only [Act.put, List.setIfInBounds_toArray, List.set_cons_zero, List.set_cons_succ]
  refine wpAnyX_take (i := 3) (v := ?_) rfl (by kernel_rfl) (by kernel_rfl) (by kernel_rfl) (by kernel_rfl) (fun _ _ _ h => h) (Or.inl ⟨by rfl, ?_⟩) (by assumption) ?_
  rotate_left 1
  · intro w hSw; (try dsimp only at hSw); go_split_ands; (first | (go_simp; done) | (go_simp; with_reducible rfl))
  try simp only [Act.put, List.setIfInBounds_toArray, List.set_cons_zero, List.set_cons_succ]
  refine wpAnyX_take (i := 4) (v := ?_) rfl (by kernel_rfl) (by kernel_rfl) (by kernel_rfl) (by kernel_rfl) (fun _ _ _ h => h) (Or.inl ⟨by rfl, ?_⟩) (by assumption) ?_
  rotate_left 1
  · intro w hSw; (try dsimp only at hSw); go_split_ands; (first | (go_simp; done) | (go_simp; with_reducible rfl))
  try simp only [Act.put, List.setIfInBounds_toArray, List.set_cons_zero, List.set_cons_succ]
  clear hS0
  refine wpAnyX_one (i := 2) (by kernel_rfl) rfl (fun K hK => ?_)
  go_simp
  refine (HX.out _).mono ?_
  rintro e1 w1 ⟨rfl, os1, rfl⟩
  dsimp only
  have hS1 := commits2_grow (os := os1) hS
  refine hK.out _ _ (fun _ => hS1) ?_
  clear hK K
  try simp only [Act.put, List.setIfInBounds_toArray, List.set_cons_zero, List.set_cons_succ]
  refine wpAnyX_one (i := 5) (by kernel_rfl) rfl (fun K hK => ?_)
  go_simp
  refine (HY.out _).mono ?_
  rintro e1 w1 ⟨rfl, os2, rfl⟩
  dsimp only
  refine hK.out _ _ (fun h => by cases h) ?_
  clear hK K
  try simp only [Act.put, List.setIfInBounds_toArray, List.set_cons_zero, List.set_cons_succ]
  refine wpAnyX_one (i := 6) (by kernel_rfl) rfl (fun K hK => ?_)
  go_simp
  refine (HC.out _).mono ?_
  rintro e1 w1 ⟨rfl, rfl⟩
  dsimp only
  refine hK.out _ _ (fun h => by cases h) ?_
  clear hK K
  try simp only [Act.put, List.setIfInBounds_toArray, List.set_cons_zero, List.set_cons_succ]
  refine wpAnyX_one (i := 7) (by kernel_rfl) rfl (fun K hK => ?_)
  go_simp
  refine hK.out _ _ (fun h => by cases h) ?_
  clear hK K
  try simp only [Act.put, List.setIfInBounds_toArray, List.set_cons_zero, List.set_cons_succ]
  refine wpAnyX_done (by kernel_rfl) ?_ _
  go_wp2
  go_ret
  exact ⟨rfl, 1, _, grown_two W _ _ os1 os2⟩
end Go.Proofs.Ytjmnbbflahacoaa.Hist
