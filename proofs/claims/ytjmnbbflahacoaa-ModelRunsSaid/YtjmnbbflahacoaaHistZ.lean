/- hist, fourteenth part: those that committed: what asks, and the order by ends. No condition. -/
import Derived.Test.YtjmnbbflahacoaaHistY
import Derived.Outline
import Derived.Test.YtjmnbbflahacoaaShelf
import Derived.Shelf.SlSortCmp.NoneTotal
namespace Go.Proofs.Ytjmnbbflahacoaa.Hist
open Go.RowKit Go.ChangeMaps Go.Maps Go.Proofs.Ytjmnbbflahacoaa.Mem Go.Proofs.Ytjmnbbflahacoaa.PHistTells Go.Proofs.YtjmnbbflahacoaaW.PrintWords
set_option linter.unusedVariables false
set_option linter.unusedSimpArgs false

set_option maxRecDepth 100000 in
theorem commits1_any (w : World) (base b : Nat) (t : Tr) (row : Value) (hT : TryAt w base b t row) : Calls Try.prog 57 #[.pointer (some ⟨b, 0, none⟩)] w fun e w' => e = .returned (.bool t.f7) ∧ Below w.heap.size w w' := by
  have t7 := hT.blk.cell 7 _ rfl
  clear hT
  go_enter Try.func57, Try.ntmps57
  go_wp2
  go_ret
  exact ⟨rfl, Below.refl _ _⟩

/-- A try's cells, its accesses' row at an address. -/
abbrev TrV := Tr × Option Addr × Nat
def encT (x : TrV) : List Value := trC x.1 (.slice x.2.1 x.1.f8.length x.2.2)
instance : Inhabited TrV := ⟨(z29, none, 0)⟩
def cmpEnd (x y : TrV) : Int := Lib.compareInt x.1.f5 y.1.f5

set_option maxRecDepth 100000 in
theorem end_any (W : World) (x : TrV) : Calls Try.prog 58 #[.agg (encT x).toArray] W fun e w' => e = .returned (.int .i64 x.1.f5) ∧ ∃ os, w' = Go.Sort.grow W os := by
  unfold encT trC
  go_enter Try.func58, Try.ntmps58
  go_wp2
  go_ret
  exact ⟨rfl, _, Go.Sort.alloc_eq_grow _ _⟩

/-- What the comparison loads, at whatever world. -/
def commits2_P (W : World) (bb : Nat) (x y : TrV) (w' : World) : Prop := w'.cell? ⟨bb, 0, none⟩ = some (.func (.func 58) #[] #[]) ∧
  (w'.cell? ⟨W.heap.size, 0, none⟩ = some (.int .i64 x.1.f0) ∧ w'.cell? ⟨W.heap.size, 1, none⟩ = some (.int .i64 x.1.f1) ∧ w'.cell? ⟨W.heap.size, 2, none⟩ = some (.int .i64 x.1.f2) ∧ w'.cell? ⟨W.heap.size, 3, none⟩ = some (.int .i64 x.1.f3) ∧ w'.cell? ⟨W.heap.size, 4, none⟩ = some (.int .i64 x.1.f4) ∧ w'.cell? ⟨W.heap.size, 5, none⟩ = some (.int .i64 x.1.f5) ∧
    w'.cell? ⟨W.heap.size, 6, none⟩ = some (.int .i64 x.1.f6) ∧ w'.cell? ⟨W.heap.size, 7, none⟩ = some (.bool x.1.f7) ∧ w'.cell? ⟨W.heap.size, 8, none⟩ = some (.slice x.2.1 x.1.f8.length x.2.2)) ∧
  (w'.cell? ⟨W.heap.size + 1, 0, none⟩ = some (.int .i64 y.1.f0) ∧ w'.cell? ⟨W.heap.size + 1, 1, none⟩ = some (.int .i64 y.1.f1) ∧ w'.cell? ⟨W.heap.size + 1, 2, none⟩ = some (.int .i64 y.1.f2) ∧ w'.cell? ⟨W.heap.size + 1, 3, none⟩ = some (.int .i64 y.1.f3) ∧ w'.cell? ⟨W.heap.size + 1, 4, none⟩ = some (.int .i64 y.1.f4) ∧ w'.cell? ⟨W.heap.size + 1, 5, none⟩ = some (.int .i64 y.1.f5) ∧
    w'.cell? ⟨W.heap.size + 1, 6, none⟩ = some (.int .i64 y.1.f6) ∧ w'.cell? ⟨W.heap.size + 1, 7, none⟩ = some (.bool y.1.f7) ∧ w'.cell? ⟨W.heap.size + 1, 8, none⟩ = some (.slice y.2.1 y.1.f8.length y.2.2))
theorem commits2_S (W : World) (bb : Nat) (x y : TrV) (hb : W.cell? ⟨bb, 0, none⟩ = some (.func (.func 58) #[] #[])) :
    commits2_P W bb x y (((W.alloc (.cells (encT x).toArray 29)).alloc (.cells (encT y).toArray 29)).drew) := by
  have h1 : Blk (((W.alloc (.cells (encT x).toArray 29)).alloc (.cells (encT y).toArray 29)).drew) W.heap.size 29 (encT x) := by
    have := (Blk.new W (encT x).toArray 29).alloc (.cells (encT y).toArray 29)
    exact this
  have h2 : Blk (((W.alloc (.cells (encT x).toArray 29)).alloc (.cells (encT y).toArray 29)).drew) (W.heap.size + 1) 29 (encT y) := by
    have := Blk.new (W.alloc (.cells (encT x).toArray 29)) (encT y).toArray 29
    rw [show (W.alloc (.cells (encT x).toArray 29)).heap.size = W.heap.size + 1 by simp] at this
    exact this
  exact ⟨alloc_cell (alloc_cell hb _) _, ⟨h1.cell 0 _ rfl, h1.cell 1 _ rfl, h1.cell 2 _ rfl, h1.cell 3 _ rfl, h1.cell 4 _ rfl, h1.cell 5 _ rfl, h1.cell 6 _ rfl, h1.cell 7 _ rfl, h1.cell 8 _ rfl⟩,
    ⟨h2.cell 0 _ rfl, h2.cell 1 _ rfl, h2.cell 2 _ rfl, h2.cell 3 _ rfl, h2.cell 4 _ rfl, h2.cell 5 _ rfl, h2.cell 6 _ rfl, h2.cell 7 _ rfl, h2.cell 8 _ rfl⟩⟩

theorem grown_two (W : World) (o o' : Obj) (os1 os2 : Array Obj) : Go.Sort.grow (Go.Sort.grow ((W.alloc o).alloc o').drew os1) os2 = Go.Sort.grow (W.drewN 1) ((#[o] ++ #[o']) ++ (os1 ++ os2)) := by
  rw [Go.Sort.alloc_eq_grow, Go.Sort.alloc_eq_grow, Go.Sort.drew_grow, Go.Sort.drew_grow, Go.Sort.grow_grow, Go.Sort.grow_grow, Go.Sort.grow_grow, Array.append_assoc]
  rfl
theorem cell_grow {w : World} {a : Addr} {v : Value} {os : Array Obj} (h : w.cell? a = some v) : (Go.Sort.grow w os).cell? a = some v := (Go.Sort.cell?_grow w os a (World.block_lt_of_cell? w a h)).trans h
theorem commits2_grow {W : World} {bb : Nat} {x y : TrV} {w : World} {os : Array Obj} (h : commits2_P W bb x y w) : commits2_P W bb x y (Go.Sort.grow w os) := by
  obtain ⟨h0, ⟨a0, a1, a2, a3, a4, a5, a6, a7, a8⟩, b0, b1, b2, b3, b4, b5, b6, b7, b8⟩ := h
  exact ⟨cell_grow h0, ⟨cell_grow a0, cell_grow a1, cell_grow a2, cell_grow a3, cell_grow a4, cell_grow a5, cell_grow a6, cell_grow a7, cell_grow a8⟩, cell_grow b0, cell_grow b1, cell_grow b2, cell_grow b3, cell_grow b4, cell_grow b5, cell_grow b6, cell_grow b7, cell_grow b8⟩

set_option maxHeartbeats 1600000 in
set_option maxRecDepth 100000 in
theorem commits2_any (W : World) (bb : Nat) (x y : TrV) (hb : W.cell? ⟨bb, 0, none⟩ = some (.func (.func 58) #[] #[])) :
    Calls Try.prog 60 #[.agg (encT x).toArray, .agg (encT y).toArray, .pointer (some ⟨bb, 0, none⟩)] W fun e w' => e = .returned (.int .i64 (cmpEnd x y)) ∧ ∃ q os, w' = Go.Sort.grow (W.drewN q) os := by
  have hcon := fun W' => AnyG.cmp_Compare_int Try.cmpInt x.1.f5 y.1.f5 W'
  change ∀ W', Calls Try.prog 61 _ _ _ at hcon
  have HC := Veil.mk hcon
  have hex := fun W' => end_any W' x
  have hey := fun W' => end_any W' y
  have b1 := fun o => alloc_cell hb o
  have b2 := fun o o' => alloc_cell (alloc_cell hb o) o'
  unfold encT trC at hex hey ⊢
  have HX := Veil.mk hex
  have HY := Veil.mk hey
  clear hcon hex hey
  unfold cmpEnd
  go_enter Try.func60, Try.ntmps60
  go_wp2_with fail
  have hS := commits2_S W bb x y hb
  unfold encT trC at hS
  refine wp_region_X (fun w' => commits2_P W bb x y w') [5, 6, 7] (by kernel_rfl) ?_
  have hS0 : commits2_P W bb x y (((W.alloc (.cells #[.int .i64 x.1.f0, .int .i64 x.1.f1, .int .i64 x.1.f2, .int .i64 x.1.f3, .int .i64 x.1.f4, .int .i64 x.1.f5, .int .i64 x.1.f6, .bool x.1.f7, .slice x.2.1 x.1.f8.length x.2.2] 29)).alloc (.cells #[.int .i64 y.1.f0, .int .i64 y.1.f1, .int .i64 y.1.f2, .int .i64 y.1.f3, .int .i64 y.1.f4, .int .i64 y.1.f5, .int .i64 y.1.f6, .bool y.1.f7, .slice y.2.1 y.1.f8.length y.2.2] 29)).drew) := hS
  unfold commits2_P at hS0 ⊢
  refine wpAnyX_take (i := 0) (v := ?_) rfl (by kernel_rfl) (by kernel_rfl) (by kernel_rfl) (by kernel_rfl) (fun _ _ _ h => h) (Or.inl ⟨by rfl, ?_⟩) (by assumption) ?_
  rotate_left 1
  · intro w hSw; (try dsimp only at hSw); go_split_ands; (first | (go_simp; done) | (go_simp; with_reducible rfl))
  try simp only [Act.put, List.setIfInBounds_toArray, List.set_cons_zero, List.set_cons_succ]
  refine wpAnyX_take (i := 1) (v := ?_) rfl (by kernel_rfl) (by kernel_rfl) (by kernel_rfl) (by kernel_rfl) (fun _ _ _ h => h) (Or.inl ⟨by rfl, ?_⟩) (by assumption) ?_
  rotate_left 1
  · intro w hSw; (try dsimp only at hSw); go_split_ands; (first | (go_simp; done) | (go_simp; with_reducible rfl))
  try simp only [Act.put, List.setIfInBounds_toArray, List.set_cons_zero, List.set_cons_succ]
  refine wpAnyX_take (i := 3) (v := ?_) rfl (by kernel_rfl) (by kernel_rfl) (by kernel_rfl) (by kernel_rfl) (fun _ _ _ h => h) (Or.inl ⟨by rfl, ?_⟩) (by assumption) ?_
  rotate_left 1
  · intro w hSw; (try dsimp only at hSw); go_split_ands; (first | (go_simp; done) | (go_simp; with_reducible rfl))
  try simp only [Act.put, List.setIfInBounds_toArray, List.set_cons_zero, List.set_cons_succ]
  refine wpAnyX_take (i := 4) (v := ?_) rfl (by kernel_rfl) (by kernel_rfl) (by kernel_rfl) (by kernel_rfl) (fun _ _ _ h => h) (Or.inl ⟨by rfl, ?_⟩) (by assumption) ?_
  rotate_left 1
  · intro w hSw; (try dsimp only at hSw); go_split_ands; (first | (go_simp; done) | (go_simp; with_reducible rfl))
  try simp only [Act.put, List.setIfInBounds_toArray, List.set_cons_zero, List.set_cons_succ]
  clear hS0
  refine wpAnyX_one (i := 2) (by kernel_rfl) rfl (fun K hK => ?_)
  go_simp
  refine (HX.out _).mono ?_
  rintro e1 w1 ⟨rfl, os1, rfl⟩
  dsimp only
  have hS1 := commits2_grow (os := os1) hS
  refine hK.out _ _ (fun _ => hS1) ?_
  clear hK K
  try simp only [Act.put, List.setIfInBounds_toArray, List.set_cons_zero, List.set_cons_succ]
  refine wpAnyX_one (i := 5) (by kernel_rfl) rfl (fun K hK => ?_)
  go_simp
  refine (HY.out _).mono ?_
  rintro e1 w1 ⟨rfl, os2, rfl⟩
  dsimp only
  refine hK.out _ _ (fun h => by cases h) ?_
  clear hK K
  try simp only [Act.put, List.setIfInBounds_toArray, List.set_cons_zero, List.set_cons_succ]
  refine wpAnyX_one (i := 6) (by kernel_rfl) rfl (fun K hK => ?_)
  go_simp
  refine (HC.out _).mono ?_
  rintro e1 w1 ⟨rfl, rfl⟩
  dsimp only
  refine hK.out _ _ (fun h => by cases h) ?_
  clear hK K
  try simp only [Act.put, List.setIfInBounds_toArray, List.set_cons_zero, List.set_cons_succ]
  refine wpAnyX_one (i := 7) (by kernel_rfl) rfl (fun K hK => ?_)
  go_simp
  refine hK.out _ _ (fun h => by cases h) ?_
  clear hK K
  try simp only [Act.put, List.setIfInBounds_toArray, List.set_cons_zero, List.set_cons_succ]
  refine wpAnyX_done (by kernel_rfl) ?_ _
  go_wp2
  go_ret
  exact ⟨rfl, 1, _, grown_two W _ _ os1 os2⟩
end Go.Proofs.Ytjmnbbflahacoaa.Hist
/- hist, fifteenth part: a row of tries, as the sort reads and leaves it. No condition. -/
namespace Go.Proofs.Ytjmnbbflahacoaa.Hist
open Go.RowKit Go.ChangeMaps Go.Maps Go.Shelf Go.Sort Go.Proofs.Ytjmnbbflahacoaa.Mem Go.Proofs.Ytjmnbbflahacoaa.PHistTells Go.Proofs.YtjmnbbflahacoaaW.PrintWords
set_option linter.unusedVariables false
set_option linter.unusedSimpArgs false

theorem list_of_each {α : Type} {n : Nat} {p : Nat → α → Prop} (h : ∀ i, i < n → ∃ x, p i x) : ∃ xs : List α, xs.length = n ∧ ∀ i x, xs[i]? = some x → p i x := by
  refine ⟨List.ofFn (fun i : Fin n => Classical.choose (h i.1 i.2)), by simp, fun i x hx => ?_⟩
  obtain ⟨hi, he⟩ := List.getElem?_eq_some_iff.1 hx
  simp only [List.length_ofFn] at hi
  simp only [List.getElem_ofFn] at he
  subst he
  exact Classical.choose_spec (h i hi)

/-- A row of tries, its elements with their addresses. -/
structure SortRow (w : World) (base g : Nat) (d : Array TrV) : Prop where
  holds : HoldsK encT 9 w g 0 d
  acc : ∀ x, x ∈ d.toList → kAcc.R 33 w base (fun _ => True) (.slice x.2.1 x.1.f8.length x.2.2) x.1.f8

theorem getBang {α : Type} [Inhabited α] (l : List α) (j : Nat) (x : α) (h : l[j]? = some x) : l.toArray[j]! = x := by
  obtain ⟨h1, h2⟩ := List.getElem?_eq_some_iff.1 h
  simp [h1, h2]
theorem sortRow_of {w : World} {base : Nat} {v : Value} {ts : List Tr} (h : kTr.R 29 w base (fun _ => True) v ts) (hp : 0 < ts.length) :
    ∃ g cap, ∃ d : Array TrV, v = .slice (some ⟨g, 0, none⟩) d.size cap ∧ d.toList.map (·.1) = ts ∧ SortRow w base g d ∧ base ≤ g ∧ g < w.heap.size := by
  obtain ⟨g, cap, rfl, hb, hlt, cells, hc⟩ := Kd.R_form h hp
  have hel : ∀ i, i < ts.length → ∃ x : TrV, ts[i]? = some x.1 ∧ kAcc.R 33 w base (fun _ => True) (.slice x.2.1 x.1.f8.length x.2.2) x.1.f8 ∧
      (∀ j u, (encT x)[j]? = some u → w.cell? ⟨g, i * 9 + j, none⟩ = some u) ∧ ∀ j, w.frozen? ⟨g, i * 9 + j, none⟩ = false := by
    intro i hi
    obtain ⟨cs, hcl, hM, hcc, hfr⟩ := Kd.R_elem h z29 (i : Int) (by omega) (by omega)
    simp only [Int.toNat_natCast, List.getD_eq_getElem?_getD, List.getElem?_eq_getElem hi, Option.getD_some] at hM hcc hfr
    obtain ⟨v8, rfl, hR8⟩ := k29_openM hM
    obtain ⟨A8, c8, rfl, _, _⟩ := Kd.R_reads hR8
    exact ⟨(ts[i], A8, c8), List.getElem?_eq_getElem hi, Kd.R_mono hR8 (fun _ _ => trivial), hcc, hfr⟩
  obtain ⟨xs, hxl, hxs⟩ := list_of_each hel
  have hmap : xs.map (·.1) = ts := by
    apply List.ext_getElem?
    intro j
    rw [List.getElem?_map]
    cases hj : xs[j]? with
    | none => rw [List.getElem?_eq_none (by rw [← hxl]; exact List.getElem?_eq_none_iff.1 hj)]; rfl
    | some x => rw [(hxs j x hj).1]; rfl
  refine ⟨g, cap, xs.toArray, by simp [hxl], hmap, ⟨?_, fun x hx => ?_⟩, hb, hlt⟩
  · intro j hj
    rw [size_flatK] at hj
    have hsz : xs.toArray.size = xs.length := by simp
    have hj9 : j / 9 < xs.length := by omega
    have hx := List.getElem?_eq_getElem hj9
    obtain ⟨_, _, h3, h4⟩ := hxs _ _ hx
    have hm : j % 9 < 9 := Nat.mod_lt _ (by decide)
    have hd : j / 9 * 9 + j % 9 = j := by omega
    have he : (encT xs[j / 9])[j % 9]? = some (encT xs[j / 9])[j % 9]! := by
      have hl9 : (encT xs[j / 9]).length = 9 := rfl
      rw [List.getElem?_eq_getElem (by rw [hl9]; exact hm), List.getElem!_eq_getElem?_getD, List.getElem?_eq_getElem (by rw [hl9]; exact hm)]
      rfl
    have h5 := h3 _ _ he
    have h6 := h4 (j % 9)
    rw [hd] at h5 h6
    rw [get_flatK encT 9 xs.toArray j hj, getBang xs _ _ hx, Nat.zero_add]
    exact ⟨h5, h6⟩
  · obtain ⟨j, hj⟩ := List.getElem?_of_mem (show x ∈ xs from hx)
    exact (hxs j x hj).2.1

theorem flat_get (d : Array TrV) (j : Nat) (x : TrV) (hx : d.toList[j]? = some x) (i : Nat) (hi : i < 9) : (flatK encT 9 d).toList[j * 9 + i]? = (encT x)[i]? := by
  obtain ⟨h1, h2⟩ := List.getElem?_eq_some_iff.1 hx
  have hj : j < d.size := by simpa using h1
  have hlt : j * 9 + i < d.size * 9 := by omega
  have h3 := get_flatK encT 9 d (j * 9 + i) hlt
  rw [show (j * 9 + i) / 9 = j by omega, show (j * 9 + i) % 9 = i by omega] at h3
  have hdx : d[j]! = x := by
    rw [getElem!_pos d j hj]
    exact h2
  rw [hdx] at h3
  have hsz : j * 9 + i < (flatK encT 9 d).size := by rw [size_flatK]; exact hlt
  rw [getElem!_pos (flatK encT 9 d) (j * 9 + i) hsz] at h3
  have hl9 : (encT x).length = 9 := rfl
  rw [List.getElem?_eq_getElem (by simpa using hsz), List.getElem?_eq_getElem (by rw [hl9]; exact hi)]
  rw [getElem!_pos (encT x) i (by rw [hl9]; exact hi)] at h3
  exact congrArg some h3

theorem put_take (F cur : Array Value) (h : F.size ≤ cur.size) : (putCells id 0 F cur).toList.take F.size = F.toList := by
  apply List.ext_getElem?
  intro i
  rw [List.getElem?_take]
  by_cases hi : i < F.size
  · rw [if_pos hi]
    have hc : i < cur.size := by omega
    simp [putCells, hi, hc]
  · rw [if_neg hi, List.getElem?_eq_none (by simpa using hi)]
theorem sortWorld_heap (w : World) (g m : Nat) (d : Array TrV) (os : Array Obj) (cur : Array Value) (T : Nat) (fr : Nat × Nat) (h : w.heap[g]? = some (.cells cur T fr)) :
    (sortWorldK encT 9 w g 0 m d os).heap[g]? = some (.cells (putCells id 0 (flatK encT 9 d) cur) T fr) := by
  have hlt := (Array.getElem?_eq_some_iff.1 h).1
  show ((w.heap.modify g (onCells (putCells id 0 (flatK encT 9 d)))) ++ os)[g]? = _
  rw [Array.getElem?_append_left (by simpa using hlt), Array.getElem?_modify, if_pos rfl, h]
  rfl
theorem sortWorld_other (w : World) (g m : Nat) (d : Array TrV) (os : Array Obj) (k : Nat) (hk : k < w.heap.size) (hn : k ≠ g) : (sortWorldK encT 9 w g 0 m d os).heap[k]? = w.heap[k]? := by
  show ((w.heap.modify g (onCells (putCells id 0 (flatK encT 9 d)))) ++ os)[k]? = _
  rw [Array.getElem?_append_left (by simpa using hk), Array.getElem?_modify, if_neg (Ne.symm hn)]

/-- Behind the sort: the row is one of tries, as before. -/
theorem row_of_sort {w : World} {base g cap n : Nat} {ts : List Tr} {d d' : Array TrV} {m : Nat} {os : Array Obj} (h : kTr.R 29 w base (fun _ => True) (.slice (some ⟨g, 0, none⟩) n cap) ts) (hd : SortRow w base g d) (hsz : d'.size = ts.length)
    (hmem : ∀ x, x ∈ d'.toList → x ∈ d.toList) : kTr.R 29 (sortWorldK encT 9 w g 0 m d' os) base (fun _ => True) (.slice (some ⟨g, 0, none⟩) n cap) (d'.toList.map (·.1)) := by
  have hty : Typed w g 29 := row_typed h rfl
  obtain ⟨_, inner, ⟨h1, h2⟩, hl, hr⟩ := h
  rcases h2 with ⟨hv, _⟩ | ⟨g', cap', cur, hv, hb, hh, hn, hm, hs, ht⟩
  · cases hv
  injection hv with ha hn' hc'
  injection ha with ha
  injection ha with ha
  subst ha hc'
  have hfl : (flatK encT 9 d').toList.length = inner.length := by
    have : (flatK encT 9 d').toList.length = d'.size * 9 := by simp
    rw [this, hl, hsz]
    rfl
  have hcur : inner.length ≤ cur.size := by
    have := congrArg List.length ht
    rw [List.length_take] at this
    simp at this
    omega
  refine ⟨fun _ _ => trivial, (flatK encT 9 d').toList, ⟨by rw [hfl]; simpa [hsz] using h1, .inr ⟨g, cap, putCells id 0 (flatK encT 9 d') cur, by rw [hn']; simp [hsz], hb, sortWorld_heap w g m d' os cur _ _ hh, ?_, hm, by simpa [putCells] using hs, ?_⟩⟩, ?_, ?_⟩
  · simpa [putCells, hsz] using hn
  · have h9 : (d'.toList.map (·.1)).length * kTr.sz = (flatK encT 9 d').size := by rw [size_flatK]; simp; rfl
    rw [h9]
    exact put_take _ _ (by have : (flatK encT 9 d').size = (flatK encT 9 d').toList.length := by simp
                           omega)
  · rw [hfl, hl]; simp [hsz]
  · intro j p hj
    rw [List.getElem?_map] at hj
    cases hx : d'.toList[j]? with
    | none => rw [hx] at hj; cases hj
    | some x =>
      rw [hx] at hj
      injection hj with hj
      have hchunk : ((flatK encT 9 d').toList.drop (j * 9)).take 9 = encT x := by
        apply List.ext_getElem?
        intro i
        rw [List.getElem?_take]
        by_cases hi : i < 9
        · rw [if_pos hi, List.getElem?_drop, flat_get d' j x hx i hi]
        · rw [if_neg hi, List.getElem?_eq_none (by show 9 ≤ i; omega)]
      show kTr.M _ _ _ p (((flatK encT 9 d').toList.drop (j * 9)).take 9)
      rw [hchunk, ← hj]
      refine k29_mkM _ _ _ x.1 ?_
      have ha := hd.acc x (hmem x (List.mem_of_getElem? hx))
      have hne : ∀ k, (Value.slice x.2.1 x.1.f8.length x.2.2).ownBlock = some k → k ≠ g := fun k hk e => by
        rw [e] at hk
        exact absurd (hty.ne (row_typed ha hk)) (by decide)
      exact Kd.R_mono (Kd.R_step (Kd.R_tight (by rfl) ha) (fun k hk hlt => sortWorld_other w g m d' os k hlt (hne k hk.symm))) (fun k hk => ⟨trivial, fun e => by
        injection e with e
        exact hne k hk.symm e⟩)
end Go.Proofs.Ytjmnbbflahacoaa.Hist
/- hist, sixteenth part: Commits. No condition. -/
namespace Go.Proofs.Ytjmnbbflahacoaa.Hist
open Go.RowKit Go.ChangeMaps Go.Maps Go.Shelf Go.Sort Go.Proofs.Ytjmnbbflahacoaa.Mem Go.Proofs.Ytjmnbbflahacoaa.PHistTells Go.Proofs.YtjmnbbflahacoaaW.PrintWords
set_option linter.unusedVariables false
set_option linter.unusedSimpArgs false

theorem ltEnd (x y : TrV) : ltOf cmpEnd x y = decide (x.1.f5 < y.1.f5) := by
  unfold ltOf cmpEnd Lib.compareInt
  by_cases h1 : x.1.f5 < y.1.f5
  · simp [h1]
  · by_cases h2 : y.1.f5 < x.1.f5 <;> simp [h1, h2]
theorem swoEnd : SWO (ltOf cmpEnd) where
  irrefl x := by rw [ltEnd]; simp
  trans x y z h1 h2 := by rw [ltEnd] at *; simp at *; omega
  ntrans x y z h1 h2 := by rw [ltEnd] at *; simp at *; omega

theorem sortWorld_cell {w : World} {g m : Nat} {d : Array TrV} {os : Array Obj} {a : Addr} {v : Value} (h : w.cell? a = some v) (hn : a.block ≠ g) : (sortWorldK encT 9 w g 0 m d os).cell? a = some v :=
  (World.cell?_of_block (w := w) (sortWorld_other w g m d os a.block (World.block_lt_of_cell? w a h) hn)).trans h

theorem SortRow.below {w w' : World} {base g : Nat} {d : Array TrV} (h : SortRow w base g d) (hlt : g < w.heap.size) (hb : Below w.heap.size w w') : SortRow w' base g d :=
  ⟨fun j hj => ⟨(hb.cell (p := ⟨g, 0 + j, none⟩) hlt).trans (h.holds j hj).1, (hb.frozen (p := ⟨g, 0 + j, none⟩) hlt).trans (h.holds j hj).2⟩, fun x hx => Kd.R_below (h.acc x hx) hb⟩
/-- The row, and the box of what tells the ends. -/
theorem commits_start {w : World} {base g cap n : Nat} {ts : List Tr} {d : Array TrV} (hv : kTr.R 29 w base (fun _ => True) (.slice (some ⟨g, 0, none⟩) n cap) ts) (hmap : d.toList.map (·.1) = ts) (hd : SortRow w base g d) (hgl : g < w.heap.size) (u : Value) (T : Nat) :
    kTr.R 29 (w.alloc (.cells #[u] T)) base (fun _ => True) (.slice (some ⟨g, 0, none⟩) n cap) ts ∧ SortRow (w.alloc (.cells #[u] T)) base g d ∧ (w.alloc (.cells #[u] T)).cell? ⟨w.heap.size, 0, none⟩ = some u ∧ d.size = ts.length ∧ Below w.heap.size w (w.alloc (.cells #[u] T)) := by
  have hb : Below w.heap.size w (w.alloc (.cells #[u] T)) := (Below.refl _ _).alloc (Nat.le_refl _) _
  exact ⟨Kd.R_below hv hb, hd.below hgl hb, (Blk.new w #[u] T).cell 0 _ rfl, by rw [← hmap]; simp, hb⟩

set_option maxHeartbeats 1600000 in
set_option maxRecDepth 100000 in
theorem sort_any (w : World) (base g cap bb : Nat) (d : Array TrV) (hd : SortRow w base g d) (hlt : g < w.heap.size) (hb : w.cell? ⟨bb, 0, none⟩ = some (.func (.func 58) #[] #[])) (hne : bb ≠ g) (hsz : d.size ≤ 1000000000) :
    Calls Try.prog 59 #[.slice (some ⟨g, 0, none⟩) d.size cap, .func (.func 60) #[] #[.pointer (some ⟨bb, 0, none⟩)]] w
      fun e w' => e = .returned (.tuple #[]) ∧ ∃ d' m os, d'.size = d.size ∧ d'.toList.Perm d.toList ∧ d'.toList.Pairwise (fun a b => a.1.f5 ≤ b.1.f5) ∧ w' = sortWorldK encT 9 w g 0 m d' os := by
  have eg : ∀ args w, (callFunc 60 args).run Try.prog w = .ok (.enter 60 args) w := enters_of Try.func60 (by kernel_rfl) rfl
  have hcon := AnyQ.slices_SortFunc Try.sortTr 9 Try.isAgg29 Try.sizeOf29 encT (fun _ => rfl) (fun x v hv => by simp [encT, trC] at hv; rcases hv with rfl | rfl | rfl | rfl | rfl | rfl | rfl | rfl | rfl <;> rfl) cmpEnd swoEnd 60 #[.pointer (some ⟨bb, 0, none⟩)] g 0 cap d w eg
    (fun m os dk hk x y => commits2_any _ bb x y (sortWorld_cell hb hne)) hd.holds hlt (by omega)
  change Calls Try.prog 59 _ _ _ at hcon
  refine hcon.mono ?_
  rintro e w' ⟨rfl, d', m, os, hp, hs, rfl⟩
  refine ⟨rfl, d', m, os, hp.1, ?_, ?_, rfl⟩
  · have h3 := hp.2.2
    rw [show d'.extract 0 d.size = d' from by rw [← hp.1]; simp, show d.extract 0 d.size = d from by simp] at h3
    exact h3
  · rw [List.pairwise_iff_getElem]
    intro i j hi hj hij
    have hi' : i < d'.size := by simpa using hi
    have hj' : j < d'.size := by simpa using hj
    have h := hs i j (Nat.zero_le _) hij (by rw [← hp.1]; exact hj')
    rw [ltEnd, getElem!_pos d' j hj', getElem!_pos d' i hi'] at h
    simp only [decide_eq_false_iff_not] at h
    show (d'[i]).1.f5 ≤ (d'[j]).1.f5
    omega

/-- Those that committed, in whatever order. -/
def ended (l : List Ev) : List Tr := (triesM l).filter (fun t => t.f7)
/-- What Commits leaves: those that committed, by their ends. -/
structure CommitsOf (l : List Ev) (cs : List Tr) : Prop where
  perm : cs.Perm (ended l)
  rise : cs.Pairwise (fun a b => a.f5 ≤ b.f5)

set_option maxHeartbeats 1600000 in
set_option maxRecDepth 100000 in
theorem commits_any (w : World) (A : Option Addr) (c : Nat) (l : List Ev) (hC : kEv.C w A l.length l) (hl : l.length ≤ 1000000000) (hok : ∀ e ∈ l, EvOk e) :
    Calls Try.prog 25 #[.slice A l.length c] w fun e w' => ∃ v cs, e = .returned v ∧ kTr.R 29 w' w.heap.size (fun _ => True) v cs ∧ CommitsOf l cs ∧ Below w.heap.size w w' := by
  have hall := all_any w A c l hC hl hok 57 #[] (fun t => t.f7) (enters_of Try.func57 (by kernel_rfl) rfl) (fun W base b t row _ hT => commits1_any W base b t row hT)
  have hlen : (ended l).length ≤ 1000000000 := by
    have h1 : (triesM l).length ≤ l.length := by
      unfold triesM
      cases h : readM l with
      | none => simp
      | some ts => exact readM_length h
    exact Nat.le_trans (List.length_filter_le _ _) (Nat.le_trans h1 hl)
  have HR := Veil.mk hall
  have hst : ∀ (a : Addr) (W : World), (store a (.func (.func 58) #[] #[])).run Try.prog W = stored Try.prog W a (.func (.func 58) #[] #[]) .plain := fun a W => run_store _ _ _ _ _ rfl
  have HLN := Veil.mk hlen
  clear hC hl hok hall hlen
  by_cases hz : 0 < (ended l).length
  · have HZ := Veil.mk hz
    clear hz
    go_enter Try.func25, Try.ntmps25
    go_wp2_with (first | (go_at_call 51; go_must (refine HR.out.mono ?_; rintro ed w2 ⟨v, rfl, hv, hb⟩; have HB2 := Veil.mk hb; have HV := Veil.mk hv; obtain ⟨g, cap, d, rfl, hmap, hd, hbg, hgl⟩ := sortRow_of hv HZ.out; have HS := Veil.mk (commits_start hv hmap hd hgl (.func (.func 58) #[] #[]) 89); have HG := Veil.mk (And.intro hbg (And.intro hgl hmap)); clear hv hb hd hbg hgl hmap)))
    go_wp2_with (first | (go_at_call 59; go_must (refine (sort_any _ w.heap.size g cap w2.heap.size d HS.out.2.1 (Nat.lt_of_lt_of_le HG.out.2.1 HS.out.2.2.2.2.size) HS.out.2.2.1 (by have := HG.out.2.1; omega) (by rw [HS.out.2.2.2.1]; exact HLN.out)).mono ?_; rintro ed w3 ⟨rfl, d', m, os, hsz, hperm, hrise, rfl⟩)))
    go_ret
    refine ⟨_, d'.toList.map (·.1), rfl, row_of_sort HS.out.1 HS.out.2.1 (by rw [hsz, HS.out.2.2.2.1]) (fun x hx => hperm.mem_iff.1 hx), ⟨?_, ?_⟩, ?_⟩
    · have h := hperm.map (fun x : TrV => x.1)
      rw [HG.out.2.2] at h
      exact h
    · exact List.pairwise_map.2 hrise
    · refine (HB2.out.trans (HS.out.2.2.2.2.mono HB2.out.size)).trans ⟨rfl, rfl, rfl, ?_, fun k hk => ?_⟩
      · show _ ≤ ((w2.alloc _).heap.modify g _ ++ os).size
        simp
      · exact sortWorld_other _ g m d' os k (Nat.lt_of_lt_of_le hk (Nat.le_trans HB2.out.size HS.out.2.2.2.2.size)) (by have := HG.out.1; omega)
  · have hz0 : ended l = [] := List.eq_nil_of_length_eq_zero (by omega)
    have HZ := Veil.mk hz0
    clear hz hz0
    have hnone := fun p cap fv w' => AnyF.slices_SortFunc_none Try.sortTr p cap fv w'
    change ∀ p cap fv w', Calls Try.prog 59 _ _ _ at hnone
    have HNN := Veil.mk hnone
    clear hnone
    go_enter Try.func25, Try.ntmps25
    go_wp2_with (first | (go_at_call 51; go_must (refine HR.out.mono ?_; rintro ed w2 ⟨v, rfl, hv, hb⟩; have HB2 := Veil.mk hb; have hv' : kTr.R 29 w2 w.heap.size (fun _ => True) v (ended l) := hv; rw [HZ.out] at hv'; have HV := Veil.mk hv'; have hrd := Kd.R_reads hv'; obtain ⟨A1, c1, rfl, _, _⟩ := hrd; clear hv hb hv')) | (go_at_call 59; go_must (refine (HNN.out _ _ _ _).mono ?_; rintro ed w3 ⟨rfl, rfl⟩)))
    go_ret
    exact ⟨_, [], rfl, Kd.R_below HV.out ((RowKit.Below.refl _ _).alloc (Nat.le_refl _) _), ⟨by rw [HZ.out], List.Pairwise.nil⟩, HB2.out.alloc HB2.out.size _⟩
end Go.Proofs.Ytjmnbbflahacoaa.Hist
