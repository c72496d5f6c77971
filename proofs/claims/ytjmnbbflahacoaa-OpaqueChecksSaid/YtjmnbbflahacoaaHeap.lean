/- opaque's things: their methods, walked. No condition. -/
import Derived.Test.YtjmnbbflahacoaaModF
import Derived.Test.YtjmnbbflahacoaaLate
namespace Go.Proofs.Ytjmnbbflahacoaa.Opq
open Go.RowKit Go.Proofs.Ytjmnbbflahacoaa.Mem Go.Proofs.Ytjmnbbflahacoaa.Hist Go.Proofs.Ytjmnbbflahacoaa.PHistTells Go.Proofs.YtjmnbbflahacoaaW.PrintWords
set_option linter.unusedVariables false
set_option linter.unusedSimpArgs false

abbrev Th := Int × Int
abbrev kTh : Kd Th := Kd.pair (Kd.int .i64) (Kd.int .i64)
theorem infoTh : (Try.prog.info? 118).map (fun i => (i.zero, i.size, i.bytes)) = some (some (.agg #[.int .i64 0, .int .i64 0]), 2, 16) := by kernel_rfl
theorem kTh_mk (w : World) (base : Nat) (ok : Nat → Prop) (x : Th) : kTh.M w base ok x [.int .i64 x.1, .int .i64 x.2] := ⟨[.int .i64 x.1], [.int .i64 x.2], rfl, rfl, rfl⟩
theorem kTh_open {w : World} {base : Nat} {ok : Nat → Prop} {x : Th} {cs : List Value} (h : kTh.M w base ok x cs) : cs = [.int .i64 x.1, .int .i64 x.2] := by
  obtain ⟨c1, c2, rfl, h1, h2⟩ := h
  have h1' : c1 = [.int .i64 x.1] := h1
  have h2' : c2 = [.int .i64 x.2] := h2
  rw [h1', h2']; rfl

theorem m_wrap (w : World) (b : Nat) (s : String) : (receiverAt 111 (.val (.pointer (some ⟨b, 0, none⟩))) false (some s)).run Try.prog w = (loadVar 113 ⟨b, 0, none⟩).run Try.prog w := by kernel_rfl
theorem m_less (w : World) (b : Nat) (v : Value) (hc : w.cell? ⟨b, 0, none⟩ = some v) : (method 303 111 (.pointer (some ⟨b, 0, none⟩)) "Less").run Try.prog w = .ok (139, v) w := by
  have h : (method 303 111 (.pointer (some ⟨b, 0, none⟩)) "Less").run Try.prog w = (Prod.mk 139 <$> receiverAt 111 (.val (.pointer (some ⟨b, 0, none⟩))) false (some "Less")).run Try.prog w := by kernel_rfl
  have h2 := m_wrap w b "Less"
  rw [h]
  go_simp
theorem m_swap (w : World) (b : Nat) (v : Value) (hc : w.cell? ⟨b, 0, none⟩ = some v) : (method 303 111 (.pointer (some ⟨b, 0, none⟩)) "Swap").run Try.prog w = .ok (142, v) w := by
  have h : (method 303 111 (.pointer (some ⟨b, 0, none⟩)) "Swap").run Try.prog w = (Prod.mk 142 <$> receiverAt 111 (.val (.pointer (some ⟨b, 0, none⟩))) false (some "Swap")).run Try.prog w := by kernel_rfl
  have h2 := m_wrap w b "Swap"
  rw [h]
  go_simp
theorem m_len (w : World) (b : Nat) (v : Value) (hc : w.cell? ⟨b, 0, none⟩ = some v) : (method 303 111 (.pointer (some ⟨b, 0, none⟩)) "Len").run Try.prog w = .ok (138, v) w := by
  have h : (method 303 111 (.pointer (some ⟨b, 0, none⟩)) "Len").run Try.prog w = (Prod.mk 138 <$> receiverAt 111 (.val (.pointer (some ⟨b, 0, none⟩))) false (some "Len")).run Try.prog w := by kernel_rfl
  have h2 := m_wrap w b "Len"
  rw [h]
  go_simp
theorem m_push (w : World) (b : Nat) : (method 303 111 (.pointer (some ⟨b, 0, none⟩)) "Push").run Try.prog w = .ok (141, .pointer (some ⟨b, 0, none⟩)) w := by kernel_rfl
theorem m_pop (w : World) (b : Nat) : (method 303 111 (.pointer (some ⟨b, 0, none⟩)) "Pop").run Try.prog w = .ok (140, .pointer (some ⟨b, 0, none⟩)) w := by kernel_rfl

/-- A heap's things, in the box b. -/
structure HeapAt (w : World) (base b : Nat) (A : Option Addr) (c : Nat) (xs : List Th) : Prop where
  box : Blk w b 113 [.slice A xs.length c]
  row : kTh.R 118 w base (fun _ => True) (.slice A xs.length c) xs
  low : base ≤ b
theorem HeapAt.step {w w' : World} {base b : Nat} {A : Option Addr} {c : Nat} {xs : List Th} (h : HeapAt w base b A c xs) (hb : Below w.heap.size w w') : HeapAt w' base b A c xs :=
  ⟨h.box.below hb h.box.lt, Kd.R_below h.row hb, h.low⟩
theorem HeapAt.cells {w : World} {base b : Nat} {A : Option Addr} {c : Nat} {xs : List Th} (h : HeapAt w base b A c xs) (k : Nat) (hk : k < xs.length) :
    ∃ g, A = some ⟨g, 0, none⟩ ∧ w.cell? ⟨g, k * 2, none⟩ = some (.int .i64 xs[k].1) ∧ w.cell? ⟨g, k * 2 + 1, none⟩ = some (.int .i64 xs[k].2) ∧ w.frozen? ⟨g, k * 2, none⟩ = false ∧ w.frozen? ⟨g, k * 2 + 1, none⟩ = false ∧ base ≤ g ∧ g ≠ b := by
  obtain ⟨g, cap, hv, hg, _, cells, hcs⟩ := Kd.R_form h.row (by omega)
  injection hv with e1 _ e3
  subst e1 e3
  obtain ⟨cs, hcl, hM, hcc, hfr⟩ := Kd.R_elem h.row (0, 0) (k : Int) (by omega) (by omega)
  simp only [Int.toNat_natCast, List.getD_eq_getElem?_getD, List.getElem?_eq_getElem hk, Option.getD_some] at hM hcc hfr
  have := kTh_open hM
  subst this
  have h0 := hcc 0 _ rfl
  have h1 := hcc 1 _ rfl
  have f0 := hfr 0
  have f1 := hfr 1
  have e0 : k * kTh.sz + 0 = k * 2 := by show k * 2 + 0 = k * 2; omega
  have e1 : k * kTh.sz + 1 = k * 2 + 1 := by show k * 2 + 1 = k * 2 + 1; rfl
  rw [e0] at h0 f0
  rw [e1] at h1 f1
  refine ⟨g, rfl, h0, h1, f0, f1, hg, fun he => ?_⟩
  have hb := h.box
  unfold Blk at hb
  rw [he] at hcs
  rw [hcs] at hb
  injection hb with hb
  injection hb with _ ht _
  simp at ht

/-- What a heap's work keeps: all that is no thing, and no heap. -/
structure KeepsH (W W' : World) : Prop where
  cells : ∀ k T, Typed W k T → T ≠ 118 → T ≠ 113 → W'.heap[k]? = W.heap[k]?
theorem KeepsH.refl (W : World) : KeepsH W W := ⟨fun _ _ _ _ _ => rfl⟩
theorem KeepsH.trans {a b c : World} (h : KeepsH a b) (k : KeepsH b c) : KeepsH a c := ⟨fun i T hT h1 h2 => by
  have e := h.cells i T hT h1 h2
  obtain ⟨cs, hcs⟩ := hT
  exact (k.cells i T ⟨cs, e.trans hcs⟩ h1 h2).trans e⟩
theorem KeepsH.ofBelow {a b : World} (h : Below a.heap.size a b) : KeepsH a b := ⟨fun i T hT _ _ => h.block i (typed_lt hT)⟩
theorem KeepsH.setCell {a w : World} (h : KeepsH a w) {p : Addr} (hp : Typed a p.block 118 ∨ Typed a p.block 113) (u : Value) : KeepsH a (w.setCell p u) := ⟨fun i T hT h1 h2 => by
  have hne : i ≠ p.block := fun he => by
    obtain ⟨cs, hcs⟩ := hT
    rw [he] at hcs
    rcases hp with ⟨c2, h3⟩ | ⟨c2, h3⟩
    · rw [hcs] at h3
      injection h3 with h3
      injection h3 with _ h3 _
      exact h1 h3
    · rw [hcs] at h3
      injection h3 with h3
      injection h3 with _ h3 _
      exact h2 h3
  exact (Below.heap_setCell w p u i hne).trans (h.cells i T hT h1 h2)⟩
theorem KeepsH.drew {a w : World} (h : KeepsH a w) : KeepsH a w.drew := ⟨h.cells⟩

def ltT (a b : Th) : Bool := if a.1 = b.1 then decide (a.2 < b.2) else decide (a.1 < b.1)
set_option maxHeartbeats 4000000 in
set_option maxRecDepth 100000 in
theorem less_any (w : World) (base b : Nat) (A : Option Addr) (c : Nat) (xs : List Th) (i j : Nat) (h : HeapAt w base b A c xs) (hi : i < xs.length) (hj : j < xs.length) (hl : xs.length ≤ 100000) :
    Calls Try.prog 139 #[.slice A xs.length c, .int .i64 i, .int .i64 j] w fun e w' => e = .returned (.bool (ltT xs[i] xs[j])) ∧ Below w.heap.size w w' := by
  obtain ⟨g, rfl, a0, a1, _⟩ := h.cells i hi
  obtain ⟨g', he, b0, b1, _⟩ := h.cells j hj
  injection he with he
  injection he with he _ _
  subst he
  have hi2 : (i : Int) < (xs.length : Int) := by omega
  have hj2 : (j : Int) < (xs.length : Int) := by omega
  obtain ⟨x, hx⟩ : ∃ x, xs[i] = x := ⟨_, rfl⟩
  obtain ⟨y, hy⟩ : ∃ y, xs[j] = y := ⟨_, rfl⟩
  rw [hx] at a0 a1
  rw [hy] at b0 b1
  rw [hx, hy]
  clear h hx hy
  by_cases h1 : x.1 = y.1
  · have m0 : (x.1 != y.1) = false := by simp [h1]
    have HR : Veil (ltT x y = decide (x.2 < y.2)) := ⟨by unfold ltT; rw [if_pos h1]⟩
    clear h1
    go_enter Try.func139, Try.ntmps139
    go_wp2_with fail
    go_quiet (fail)
    go_wp2_with fail
    go_quiet (fail)
    go_wp2
    go_ret
    exact ⟨by rw [HR.out]; rfl, ((Below.refl _ _).drewN _).drewN _⟩
  · have m0 : (x.1 != y.1) = true := by simp [h1]
    have HR : Veil (ltT x y = decide (x.1 < y.1)) := ⟨by unfold ltT; rw [if_neg h1]⟩
    clear h1
    go_enter Try.func139, Try.ntmps139
    go_wp2_with fail
    go_quiet (fail)
    go_wp2_with fail
    go_quiet (fail)
    go_wp2
    go_ret
    exact ⟨by rw [HR.out]; rfl, ((Below.refl _ _).drewN _).drewN _⟩
theorem len_any (w : World) (A : Option Addr) (n c : Nat) : Calls Try.prog 138 #[.slice A n c] w fun e w' => e = .returned (.int .i64 n) ∧ w' = w := by
  go_enter Try.func138, Try.ntmps138
  go_wp2
  go_ret
  exact ⟨rfl, rfl⟩
theorem HeapAt.put {w : World} {base b g : Nat} {c : Nat} {xs : List Th} (h : HeapAt w base b (some ⟨g, 0, none⟩) c xs) (k : Nat) (hk : k < xs.length) (y : Th) :
    HeapAt ((w.setCell ⟨g, k * 2, none⟩ (.int .i64 y.1)).setCell ⟨g, k * 2 + 1, none⟩ (.int .i64 y.2)) base b (some ⟨g, 0, none⟩) c (xs.set k y) := by
  obtain ⟨g', he, h0, h1, _, _, _, hgb⟩ := h.cells k hk
  injection he with he
  injection he with he _ _
  subst he
  have hlen : (xs.set k y).length = xs.length := List.length_set
  refine ⟨?_, ?_, h.low⟩
  · rw [hlen]
    exact ((h.box.far (p := ⟨g, k * 2, none⟩) (Ne.symm hgb) _).far (p := ⟨g, k * 2 + 1, none⟩) (Ne.symm hgb) _)
  · rw [hlen]
    have := (Kd.R_seg (okp := fun _ => False) h.row (k : Int) (by omega) (by omega) (c := [.int .i64 xs[k].1, .int .i64 xs[k].2]) (seg := [.int .i64 y.1, .int .i64 y.2]) (j := 0) rfl (fun j u hj => by
      have hj2 : j < 2 := (List.getElem?_eq_some_iff.1 hj).1
      match j, hj2, hj with
      | 0, _, hj => simp only [List.getElem?_cons_zero, Option.some.injEq] at hj; subst hj; exact h0
      | 1, _, hj => simp only [List.getElem?_cons_succ, List.getElem?_cons_zero, Option.some.injEq] at hj; subst hj; exact h1) (by show 0 + 2 ≤ 2; omega) (x' := y) (kTh_mk _ _ _ y) (fun _ h => h.elim)).1
    exact this

set_option maxHeartbeats 8000000 in
set_option maxRecDepth 100000 in
theorem swap_any (w : World) (base b : Nat) (A : Option Addr) (c : Nat) (xs : List Th) (i j : Nat) (h : HeapAt w base b A c xs) (hi : i < xs.length) (hj : j < xs.length) (hl : xs.length ≤ 100000) :
    Calls Try.prog 142 #[.slice A xs.length c, .int .i64 i, .int .i64 j] w fun e w' => (∃ v, e = .returned v) ∧ HeapAt w' base b A c ((xs.set i xs[j]).set j xs[i]) ∧ Below base w w' ∧ KeepsH w w' := by
  obtain ⟨g, rfl, a0, a1, fa0, fa1, hg, _⟩ := h.cells i hi
  obtain ⟨g', he, b0, b1, fb0, fb1, _, _⟩ := h.cells j hj
  injection he with he
  injection he with he _ _
  subst he
  have HH := Veil.mk h
  have HTY : Veil (Typed w g 118) := ⟨row_typed h.row rfl⟩
  have hi2 : (i : Int) < (xs.length : Int) := by omega
  have hj2 : (j : Int) < (xs.length : Int) := by omega
  have HP : Veil (∀ W, HeapAt W base b (some ⟨g, 0, none⟩) c xs → HeapAt ((W.setCell ⟨g, i * 2, none⟩ (.int .i64 xs[j].1)).setCell ⟨g, i * 2 + 1, none⟩ (.int .i64 xs[j].2)) base b (some ⟨g, 0, none⟩) c (xs.set i xs[j])) := ⟨fun W hW => hW.put i hi _⟩
  have hj3 : j < xs.length := hj
  have HP2 : Veil (∀ W, HeapAt W base b (some ⟨g, 0, none⟩) c (xs.set i xs[j]) → HeapAt ((W.setCell ⟨g, j * 2, none⟩ (.int .i64 xs[i].1)).setCell ⟨g, j * 2 + 1, none⟩ (.int .i64 xs[i].2)) base b (some ⟨g, 0, none⟩) c ((xs.set i xs[j]).set j xs[i])) := ⟨fun W hW => hW.put j (by rw [List.length_set]; exact hj) _⟩
  have HJ : Veil (j < (xs.set i xs[j]).length) := ⟨by rw [List.length_set]; exact hj⟩
  obtain ⟨ys, hys⟩ : ∃ ys, xs.set i xs[j] = ys := ⟨_, rfl⟩
  rw [hys] at HP HP2 HJ ⊢
  obtain ⟨x, hx⟩ : ∃ x, xs[i] = x := ⟨_, rfl⟩
  obtain ⟨y, hy⟩ : ∃ y, xs[j] = y := ⟨_, rfl⟩
  rw [hx] at a0 a1 HP2 ⊢
  rw [hy] at b0 b1 HP
  have HG := Veil.mk hg
  clear h hx hy hys hg
  go_enter Try.func142, Try.ntmps142
  go_wp2_with fail
  refine wp_region_X (fun w' => w'.cell? ⟨g, i * 2, none⟩ = some (.int .i64 x.1) ∧ w'.cell? ⟨g, i * 2 + 1, none⟩ = some (.int .i64 x.2) ∧ w'.cell? ⟨g, j * 2, none⟩ = some (.int .i64 y.1) ∧ w'.cell? ⟨g, j * 2 + 1, none⟩ = some (.int .i64 y.2)) [0, 1, 2, 3, 4, 5, 6, 8, 9, 10, 12, 13, 14, 15] (by kernel_rfl) ?_
  have hS0 : w.drew.cell? ⟨g, i * 2, none⟩ = some (.int .i64 x.1) ∧ w.drew.cell? ⟨g, i * 2 + 1, none⟩ = some (.int .i64 x.2) ∧ w.drew.cell? ⟨g, j * 2, none⟩ = some (.int .i64 y.1) ∧ w.drew.cell? ⟨g, j * 2 + 1, none⟩ = some (.int .i64 y.2) := ⟨a0, a1, b0, b1⟩
  refine wpAnyX_takeP (i := 0) (v := ?_) rfl (by kernel_rfl) (by kernel_rfl) (by kernel_rfl) (by kernel_rfl) (fun _ _ _ h => h) (Or.inl ⟨by rfl, ?_⟩) ?_
  rotate_left 1
  · intro w hSw; (try dsimp only at hSw); go_split_ands; (first | (go_simp; done) | (go_simp; with_reducible rfl))
  try simp only [Act.put, List.getElem_toArray, List.getElem_cons_zero, List.getElem_cons_succ, List.setIfInBounds_toArray, List.set_cons_zero, List.set_cons_succ]
  refine wpAnyX_takeP (i := 1) (v := ?_) rfl (by kernel_rfl) (by kernel_rfl) (by kernel_rfl) (by kernel_rfl) (fun _ _ _ h => h) (Or.inl ⟨by rfl, ?_⟩) ?_
  rotate_left 1
  · intro w hSw; (try dsimp only at hSw); go_split_ands; (first | (go_simp; done) | (go_simp; with_reducible rfl))
  try simp only [Act.put, List.getElem_toArray, List.getElem_cons_zero, List.getElem_cons_succ, List.setIfInBounds_toArray, List.set_cons_zero, List.set_cons_succ]
  refine wpAnyX_takeP (i := 2) (v := ?_) rfl (by kernel_rfl) (by kernel_rfl) (by kernel_rfl) (by kernel_rfl) (fun _ _ _ h => h) (Or.inl ⟨by rfl, ?_⟩) ?_
  rotate_left 1
  · intro w hSw; (try dsimp only at hSw); go_split_ands; (first | (go_simp; done) | (go_simp; with_reducible rfl))
  try simp only [Act.put, List.getElem_toArray, List.getElem_cons_zero, List.getElem_cons_succ, List.setIfInBounds_toArray, List.set_cons_zero, List.set_cons_succ]
  refine wpAnyX_takeP (i := 3) (v := ?_) rfl (by kernel_rfl) (by kernel_rfl) (by kernel_rfl) (by kernel_rfl) (fun _ _ _ h => h) (Or.inl ⟨by rfl, ?_⟩) ?_
  rotate_left 1
  · intro w hSw; (try dsimp only at hSw); go_split_ands; (first | (go_simp; done) | (go_simp; with_reducible rfl))
  try simp only [Act.put, List.getElem_toArray, List.getElem_cons_zero, List.getElem_cons_succ, List.setIfInBounds_toArray, List.set_cons_zero, List.set_cons_succ]
  refine wpAnyX_takeP (i := 4) (v := ?_) rfl (by kernel_rfl) (by kernel_rfl) (by kernel_rfl) (by kernel_rfl) (fun _ _ _ h => h) (Or.inl ⟨by rfl, ?_⟩) ?_
  rotate_left 1
  · intro w hSw; (try dsimp only at hSw); go_split_ands; (first | (go_simp; done) | (go_simp; with_reducible rfl))
  try simp only [Act.put, List.getElem_toArray, List.getElem_cons_zero, List.getElem_cons_succ, List.setIfInBounds_toArray, List.set_cons_zero, List.set_cons_succ]
  refine wpAnyX_takeP (i := 5) (v := ?_) rfl (by kernel_rfl) (by kernel_rfl) (by kernel_rfl) (by kernel_rfl) (fun _ _ _ h => h) (Or.inl ⟨by rfl, ?_⟩) ?_
  rotate_left 1
  · intro w hSw; (try dsimp only at hSw); go_split_ands; (first | (go_simp; done) | (go_simp; with_reducible rfl))
  try simp only [Act.put, List.getElem_toArray, List.getElem_cons_zero, List.getElem_cons_succ, List.setIfInBounds_toArray, List.set_cons_zero, List.set_cons_succ]
  refine wpAnyX_takeP (i := 6) (v := ?_) rfl (by kernel_rfl) (by kernel_rfl) (by kernel_rfl) (by kernel_rfl) (fun _ _ _ h => h) (Or.inl ⟨by rfl, ?_⟩) ?_
  rotate_left 1
  · intro w hSw; (try dsimp only at hSw); go_split_ands; (first | (go_simp; done) | (go_simp; with_reducible rfl))
  try simp only [Act.put, List.getElem_toArray, List.getElem_cons_zero, List.getElem_cons_succ, List.setIfInBounds_toArray, List.set_cons_zero, List.set_cons_succ]
  refine wpAnyX_takeP (i := 8) (v := ?_) rfl (by kernel_rfl) (by kernel_rfl) (by kernel_rfl) (by kernel_rfl) (fun _ _ _ h => h) (Or.inl ⟨by rfl, ?_⟩) ?_
  rotate_left 1
  · intro w hSw; (try dsimp only at hSw); go_split_ands; (first | (go_simp; done) | (go_simp; with_reducible rfl))
  try simp only [Act.put, List.getElem_toArray, List.getElem_cons_zero, List.getElem_cons_succ, List.setIfInBounds_toArray, List.set_cons_zero, List.set_cons_succ]
  refine wpAnyX_takeP (i := 9) (v := ?_) rfl (by kernel_rfl) (by kernel_rfl) (by kernel_rfl) (by kernel_rfl) (fun _ _ _ h => h) (Or.inl ⟨by rfl, ?_⟩) ?_
  rotate_left 1
  · intro w hSw; (try dsimp only at hSw); go_split_ands; (first | (go_simp; done) | (go_simp; with_reducible rfl))
  try simp only [Act.put, List.getElem_toArray, List.getElem_cons_zero, List.getElem_cons_succ, List.setIfInBounds_toArray, List.set_cons_zero, List.set_cons_succ]
  refine wpAnyX_takeP (i := 10) (v := ?_) rfl (by kernel_rfl) (by kernel_rfl) (by kernel_rfl) (by kernel_rfl) (fun _ _ _ h => h) (Or.inl ⟨by rfl, ?_⟩) ?_
  rotate_left 1
  · intro w hSw; (try dsimp only at hSw); go_split_ands; (first | (go_simp; done) | (go_simp; with_reducible rfl))
  try simp only [Act.put, List.getElem_toArray, List.getElem_cons_zero, List.getElem_cons_succ, List.setIfInBounds_toArray, List.set_cons_zero, List.set_cons_succ]
  refine wpAnyX_takeM (i := 7) (v := ?_) rfl (by kernel_rfl) (by kernel_rfl) (by kernel_rfl) (by kernel_rfl) (fun _ _ _ h => h) (Or.inl ⟨by rfl, ?_⟩) (by assumption) ?_
  rotate_left 1
  · intro w hSw; (try dsimp only at hSw); go_split_ands; (first | (go_simp; done) | (go_simp; with_reducible rfl))
  try simp only [Act.put, List.getElem_toArray, List.getElem_cons_zero, List.getElem_cons_succ, List.setIfInBounds_toArray, List.set_cons_zero, List.set_cons_succ]
  refine wpAnyX_takeM (i := 11) (v := ?_) rfl (by kernel_rfl) (by kernel_rfl) (by kernel_rfl) (by kernel_rfl) (fun _ _ _ h => h) (Or.inl ⟨by rfl, ?_⟩) (by assumption) ?_
  rotate_left 1
  · intro w hSw; (try dsimp only at hSw); go_split_ands; (first | (go_simp; done) | (go_simp; with_reducible rfl))
  try simp only [Act.put, List.getElem_toArray, List.getElem_cons_zero, List.getElem_cons_succ, List.setIfInBounds_toArray, List.set_cons_zero, List.set_cons_succ]
  refine wpAnyX_takeP (i := 12) (v := ?_) rfl (by kernel_rfl) (by kernel_rfl) (by kernel_rfl) (by kernel_rfl) (fun _ _ _ h => h) (Or.inl ⟨by rfl, ?_⟩) ?_
  rotate_left 1
  · intro w hSw; (try dsimp only at hSw); go_split_ands; (first | (go_simp; done) | (go_simp; with_reducible rfl))
  try simp only [Act.put, List.getElem_toArray, List.getElem_cons_zero, List.getElem_cons_succ, List.setIfInBounds_toArray, List.set_cons_zero, List.set_cons_succ]
  clear hS0
  have HD := Veil.mk (HH.out.step (Below.refl w.heap.size w).drew)
  refine wpAnyX_one (i := 13) (by kernel_rfl) rfl (fun K hK => ?_)
  go_simp
  refine hK.out _ _ (fun h => by cases h) ?_
  clear hK K
  have HD2 := Veil.mk ((HP.out _ HH.out).step (Below.refl _ _).drew)
  obtain ⟨g', he, c0, c1, f0, f1, _, _⟩ := HD2.out.cells j HJ.out
  injection he with he
  injection he with he _ _
  subst he
  have HB2 := Veil.mk (((((Below.refl base w)).setCell (p := ⟨g, i * 2, none⟩) HG.out (.int .i64 y.1)).setCell (p := ⟨g, i * 2 + 1, none⟩) HG.out (.int .i64 y.2)).drew)
  have HK2 := Veil.mk (((((KeepsH.refl w)).setCell (p := ⟨g, i * 2, none⟩) (.inl HTY.out) (.int .i64 y.1)).setCell (p := ⟨g, i * 2 + 1, none⟩) (.inl HTY.out) (.int .i64 y.2)).drew)
  generalize ((w.setCell ⟨g, i * 2, none⟩ (.int .i64 y.1)).setCell ⟨g, i * 2 + 1, none⟩ (.int .i64 y.2)).drew = w2 at *
  clear a0 a1 b0 b1 fa0 fa1 fb0 fb1
  try simp only [Act.put, List.getElem_toArray, List.getElem_cons_zero, List.getElem_cons_succ, List.setIfInBounds_toArray, List.set_cons_zero, List.set_cons_succ]
  refine wpAnyX_one (i := 14) (by kernel_rfl) rfl (fun K hK => ?_)
  go_simp
  refine hK.out _ _ (fun h => by cases h) ?_
  clear hK K
  try simp only [Act.put, List.getElem_toArray, List.getElem_cons_zero, List.getElem_cons_succ, List.setIfInBounds_toArray, List.set_cons_zero, List.set_cons_succ]
  refine wpAnyX_one (i := 15) (by kernel_rfl) rfl (fun K hK => ?_)
  go_simp
  refine hK.out _ _ (fun h => by cases h) ?_
  clear hK K
  refine wpAnyX_done (by kernel_rfl) ?_ _
  have HD3 := Veil.mk (HP2.out _ HD2.out)
  have HB3 := Veil.mk ((HB2.out.setCell (p := ⟨g, j * 2, none⟩) HG.out (.int .i64 x.1)).setCell (p := ⟨g, j * 2 + 1, none⟩) HG.out (.int .i64 x.2))
  have HK3 := Veil.mk ((HK2.out.setCell (p := ⟨g, j * 2, none⟩) (.inl HTY.out) (.int .i64 x.1)).setCell (p := ⟨g, j * 2 + 1, none⟩) (.inl HTY.out) (.int .i64 x.2))
  go_wp2
  go_end0
  exact ⟨⟨_, rfl⟩, HD3.out, HB3.out, HK3.out⟩

theorem t_thing (w : World) (a b : Int) : (Instr.typeAssert (.iface 118 (.agg #[.int .i64 a, .int .i64 b])) 20 118 false).run Try.prog w = .ok (.agg #[.int .i64 a, .int .i64 b]) w := by kernel_rfl
set_option maxHeartbeats 8000000 in
set_option maxRecDepth 100000 in
theorem push_any (w : World) (base b : Nat) (A : Option Addr) (c : Nat) (xs : List Th) (x : Th) (h : HeapAt w base b A c xs) (hl : xs.length ≤ 100000) :
    Calls Try.prog 141 #[.pointer (some ⟨b, 0, none⟩), .iface 118 (.agg #[.int .i64 x.1, .int .i64 x.2])] w fun e w' => (∃ v, e = .returned v) ∧ (∃ A' c', HeapAt w' base b A' c' (xs ++ [x])) ∧ Below base w w' := by
  have HH := Veil.mk h
  have HLW := Veil.mk h.low
  have HBL := Veil.mk h.box.lt
  have s0 := h.box.cell 0 _ rfl
  have hta := fun w => t_thing w x.1 x.2
  clear h
  go_enter Try.func141, Try.ntmps141
  go_wp2_with fail
  refine wp_region_X (fun w' => w'.cell? ⟨b, 0, none⟩ = some (.slice A xs.length c)) [0, 1, 2, 4, 5, 7, 8, 9] (by kernel_rfl) ?_
  have hS0 : w.drew.cell? ⟨b, 0, none⟩ = some (.slice A xs.length c) := s0
  refine wpAnyX_takeP (i := 0) (v := ?_) rfl (by kernel_rfl) (by kernel_rfl) (by kernel_rfl) (by kernel_rfl) (fun _ _ _ h => h) (Or.inl ⟨by rfl, ?_⟩) ?_
  rotate_left 1
  · intro w hSw; (try dsimp only at hSw); go_split_ands; (first | (go_simp; done) | (go_simp; with_reducible rfl))
  try simp only [Act.put, List.getElem_toArray, List.getElem_cons_zero, List.getElem_cons_succ, List.setIfInBounds_toArray, List.set_cons_zero, List.set_cons_succ]
  refine wpAnyX_takeP (i := 1) (v := ?_) rfl (by kernel_rfl) (by kernel_rfl) (by kernel_rfl) (by kernel_rfl) (fun _ _ _ h => h) (Or.inl ⟨by rfl, ?_⟩) ?_
  rotate_left 1
  · intro w hSw; (try dsimp only at hSw); go_split_ands; (first | (go_simp; done) | (go_simp; with_reducible rfl))
  try simp only [Act.put, List.getElem_toArray, List.getElem_cons_zero, List.getElem_cons_succ, List.setIfInBounds_toArray, List.set_cons_zero, List.set_cons_succ]
  refine wpAnyX_takeP (i := 2) (v := ?_) rfl (by kernel_rfl) (by kernel_rfl) (by kernel_rfl) (by kernel_rfl) (fun _ _ _ h => h) (Or.inl ⟨by rfl, ?_⟩) ?_
  rotate_left 1
  · intro w hSw; (try dsimp only at hSw); go_split_ands; (first | (go_simp; done) | (go_simp; with_reducible rfl))
  try simp only [Act.put, List.getElem_toArray, List.getElem_cons_zero, List.getElem_cons_succ, List.setIfInBounds_toArray, List.set_cons_zero, List.set_cons_succ]
  refine wpAnyX_takeP (i := 4) (v := ?_) rfl (by kernel_rfl) (by kernel_rfl) (by kernel_rfl) (by kernel_rfl) (fun _ _ _ h => h) (Or.inl ⟨by rfl, ?_⟩) ?_
  rotate_left 1
  · intro w hSw; (try dsimp only at hSw); go_split_ands; (first | (go_simp; done) | (go_simp; with_reducible rfl))
  try simp only [Act.put, List.getElem_toArray, List.getElem_cons_zero, List.getElem_cons_succ, List.setIfInBounds_toArray, List.set_cons_zero, List.set_cons_succ]
  refine wpAnyX_takeP (i := 5) (v := ?_) rfl (by kernel_rfl) (by kernel_rfl) (by kernel_rfl) (by kernel_rfl) (fun _ _ _ h => h) (Or.inl ⟨by rfl, ?_⟩) ?_
  rotate_left 1
  · intro w hSw; (try dsimp only at hSw); go_split_ands; (first | (go_simp; done) | (go_simp; with_reducible rfl))
  try simp only [Act.put, List.getElem_toArray, List.getElem_cons_zero, List.getElem_cons_succ, List.setIfInBounds_toArray, List.set_cons_zero, List.set_cons_succ]
  refine wpAnyX_takeM (i := 3) (v := ?_) rfl (by kernel_rfl) (by kernel_rfl) (by kernel_rfl) (by kernel_rfl) (fun _ _ _ h => h) (Or.inl ⟨by rfl, ?_⟩) (by assumption) ?_
  rotate_left 1
  · intro w hSw; (try dsimp only at hSw); go_split_ands; (first | (go_simp; done) | (go_simp; with_reducible rfl))
  try simp only [Act.put, List.getElem_toArray, List.getElem_cons_zero, List.getElem_cons_succ, List.setIfInBounds_toArray, List.set_cons_zero, List.set_cons_succ]
  clear hS0 hta
  have HD := Veil.mk (HH.out.step (Below.refl w.heap.size w).drew)
  have hlow : base ≤ w.drew.heap.size := Nat.le_trans HLW.out (Nat.le_of_lt HBL.out)
  have HLO := Veil.mk hlow
  clear hlow
  refine wpAnyX_one (i := 6) (by kernel_rfl) rfl (fun K hK => ?_)
  go_simp
  refine hK.out _ _ (fun _ => alloc_cell (w := w.drew) s0 _) ?_
  clear hK K s0
  try simp only [Act.put, List.getElem_toArray, List.getElem_cons_zero, List.getElem_cons_succ, List.setIfInBounds_toArray, List.set_cons_zero, List.set_cons_succ]
  refine wpAnyX_one (i := 7) (by kernel_rfl) rfl (fun K hK => ?_)
  refine Kd.R_append_step kTh base (w0 := w.drew) rfl (.tmp 7) (.tmp 10) 113 118 (.agg #[.int .i64 0, .int .i64 0]) 16 rfl Try.underlying113 infoTh rfl (by decide) (by decide) (.slice A xs.length c) xs x [.int .i64 x.1, .int .i64 x.2] (fun _ => True) (fun _ => False) rfl rfl (kTh_mk _ _ _ x) (fun _ h => h.elim) (fun _ _ => trivial) HD.out.row (Below.refl _ _) HLO.out (by omega) ?_
  intro v1 w6 hR hB hg hat
  have HB6 := Veil.mk hB
  have hbx : Blk w6 b 113 [.slice A xs.length c] := (hg.block b HD.out.box.lt (fun he => by
    have h1 := row_typed HD.out.row he.symm
    exact absurd ((blk_typed HD.out.box).ne h1) (by decide))).trans HD.out.box
  have hne : some b ≠ v1.ownBlock := fun he => absurd ((blk_typed hbx).ne (row_typed hR he.symm)) (by decide)
  obtain ⟨A1, c1, rfl⟩ := Kd.R_slice hR
  have HR6 := Veil.mk (Kd.R_mono (Kd.R_far (p := ⟨b, 0, none⟩) (Kd.R_tight (by rfl) hR) (fun k hk he => hne (by rw [← hk]; exact congrArg some he.symm)) (.slice A1 (xs ++ [x]).length c1)) (fun _ _ => trivial))
  have b0 := hbx.cell 0 _ rfl
  have f0 := hbx.free 0
  have HX6 := Veil.mk (hbx.set 0 (.slice A1 (xs ++ [x]).length c1))
  refine hK.out _ _ (fun h => by cases h) ?_
  clear hK K hR hB hg hat hbx hne
  try simp only [Act.put, List.getElem_toArray, List.getElem_cons_zero, List.getElem_cons_succ, List.setIfInBounds_toArray, List.set_cons_zero, List.set_cons_succ]
  have hln : (xs ++ [x]).length = xs.length + 1 := by simp
  rw [hln] at HR6 HX6
  clear hln
  refine wpAnyX_one (i := 8) (by kernel_rfl) rfl (fun K hK => ?_)
  go_simp
  refine hK.out _ _ (fun h => by cases h) ?_
  clear hK K
  try simp only [Act.put, List.getElem_toArray, List.getElem_cons_zero, List.getElem_cons_succ, List.setIfInBounds_toArray, List.set_cons_zero, List.set_cons_succ]
  refine wpAnyX_one (i := 9) (by kernel_rfl) rfl (fun K hK => ?_)
  go_simp
  refine hK.out _ _ (fun h => by cases h) ?_
  clear hK K
  refine wpAnyX_done (by kernel_rfl) ?_ _
  have HFIN : Veil (HeapAt (w6.setCell ⟨b, 0, none⟩ (.slice A1 (xs.length + 1) c1)) base b A1 c1 (xs ++ [x])) := ⟨⟨by rw [List.length_append]; exact HX6.out, by rw [List.length_append]; exact HR6.out, HLW.out⟩⟩
  have HBF := Veil.mk ((((Below.refl base w).drew).trans HB6.out).setCell (p := ⟨b, 0, none⟩) HLW.out (.slice A1 (xs.length + 1) c1))
  go_wp2
  go_end0
  exact ⟨⟨_, rfl⟩, ⟨_, _, HFIN.out⟩, HBF.out⟩

set_option maxHeartbeats 8000000 in
set_option maxRecDepth 100000 in
theorem pop_any (w : World) (base b : Nat) (A : Option Addr) (c : Nat) (ys : List Th) (z : Th) (h : HeapAt w base b A c (ys ++ [z])) (hl : ys.length ≤ 100000) :
    Calls Try.prog 140 #[.pointer (some ⟨b, 0, none⟩)] w fun e w' => e = .returned (.iface 118 (.agg #[.int .i64 z.1, .int .i64 z.2])) ∧ HeapAt w' base b A c ys ∧ Below base w w' ∧ KeepsH w w' := by
  have hln : (ys ++ [z]).length = ys.length + 1 := by simp
  have HH := Veil.mk h
  have HTY : Veil (Typed w b 113) := ⟨blk_typed h.box⟩
  have HLW := Veil.mk h.low
  have HBL := Veil.mk h.box.lt
  obtain ⟨g, rfl, q0, q1, _, _, hg, _⟩ := h.cells ys.length (by omega)
  have hz : (ys ++ [z])[ys.length]'(by omega) = z := by simp
  rw [hz] at q0 q1
  have s0 := h.box.cell 0 _ rfl
  have f0 := h.box.free 0
  rw [hln] at s0
  have hcc := (Kd.R_reads' h.row).2.1
  rw [hln] at hcc
  have hcut := cut_to (P := Try.prog) 113 118 .i64 Try.underlying113 (info_parts infoTh).choose_spec.1 (some ⟨g, 0, none⟩) (ys.length + 1) c (ys.length : Int) (by omega) (by omega) hcc
  rw [Int.toNat_natCast] at hcut
  have hw1 : IntKind.i64.wrap (ys.length : Int) = (ys.length : Int) := IntWalk.i64_in _ (by omega)
  have i1 : (ys.length : Int) < (ys.length : Int) + 1 := by omega
  have i2 : (ys.length : Int) + 1 - 1 = (ys.length : Int) := by omega
  clear h hz hln hg hcc
  go_enter Try.func140, Try.ntmps140
  go_wp2_with fail
  refine wp_region_X (fun w' => w'.cell? ⟨b, 0, none⟩ = some (.slice (some ⟨g, 0, none⟩) (ys.length + 1) c) ∧ w'.cell? ⟨g, ys.length * 2, none⟩ = some (.int .i64 z.1) ∧ w'.cell? ⟨g, ys.length * 2 + 1, none⟩ = some (.int .i64 z.2)) [0, 1, 3, 4, 6, 7, 8, 11] (by kernel_rfl) ?_
  have hS0 : w.drew.cell? ⟨b, 0, none⟩ = some (.slice (some ⟨g, 0, none⟩) (ys.length + 1) c) ∧ w.drew.cell? ⟨g, ys.length * 2, none⟩ = some (.int .i64 z.1) ∧ w.drew.cell? ⟨g, ys.length * 2 + 1, none⟩ = some (.int .i64 z.2) := ⟨s0, q0, q1⟩
  refine wpAnyX_takeP (i := 0) (v := ?_) rfl (by kernel_rfl) (by kernel_rfl) (by kernel_rfl) (by kernel_rfl) (fun _ _ _ h => h) (Or.inl ⟨by rfl, ?_⟩) ?_
  rotate_left 1
  · intro w hSw; (try dsimp only at hSw); go_split_ands; (first | (go_simp; done) | (go_simp; with_reducible rfl))
  try simp only [Act.put, List.getElem_toArray, List.getElem_cons_zero, List.getElem_cons_succ, List.setIfInBounds_toArray, List.set_cons_zero, List.set_cons_succ]
  refine wpAnyX_takeP (i := 1) (v := ?_) rfl (by kernel_rfl) (by kernel_rfl) (by kernel_rfl) (by kernel_rfl) (fun _ _ _ h => h) (Or.inl ⟨by rfl, ?_⟩) ?_
  rotate_left 1
  · intro w hSw; (try dsimp only at hSw); go_split_ands; (first | (go_simp; done) | (go_simp; with_reducible rfl))
  try simp only [Act.put, List.getElem_toArray, List.getElem_cons_zero, List.getElem_cons_succ, List.setIfInBounds_toArray, List.set_cons_zero, List.set_cons_succ]
  refine wpAnyX_takeP (i := 3) (v := ?_) rfl (by kernel_rfl) (by kernel_rfl) (by kernel_rfl) (by kernel_rfl) (fun _ _ _ h => h) (Or.inl ⟨by rfl, ?_⟩) ?_
  rotate_left 1
  · intro w hSw; (try dsimp only at hSw); go_split_ands; (first | (go_simp; done) | (go_simp; with_reducible rfl))
  try simp only [Act.put, List.getElem_toArray, List.getElem_cons_zero, List.getElem_cons_succ, List.setIfInBounds_toArray, List.set_cons_zero, List.set_cons_succ]
  refine wpAnyX_takeP (i := 4) (v := ?_) rfl (by kernel_rfl) (by kernel_rfl) (by kernel_rfl) (by kernel_rfl) (fun _ _ _ h => h) (Or.inl ⟨by rfl, ?_⟩) ?_
  rotate_left 1
  · intro w hSw; (try dsimp only at hSw); go_split_ands; (first | (go_simp; done) | (go_simp; with_reducible rfl))
  try simp only [Act.put, List.getElem_toArray, List.getElem_cons_zero, List.getElem_cons_succ, List.setIfInBounds_toArray, List.set_cons_zero, List.set_cons_succ]
  refine wpAnyX_takeM (i := 5) (v := ?_) rfl (by kernel_rfl) (by kernel_rfl) (by kernel_rfl) (by kernel_rfl) (fun _ _ _ h => h) (Or.inl ⟨by rfl, ?_⟩) (by assumption) ?_
  rotate_left 1
  · intro w hSw; (try dsimp only at hSw); go_split_ands; (first | (go_simp; done) | (go_simp; with_reducible rfl))
  try simp only [Act.put, List.getElem_toArray, List.getElem_cons_zero, List.getElem_cons_succ, List.setIfInBounds_toArray, List.set_cons_zero, List.set_cons_succ]
  refine wpAnyX_takeP (i := 6) (v := ?_) rfl (by kernel_rfl) (by kernel_rfl) (by kernel_rfl) (by kernel_rfl) (fun _ _ _ h => h) (Or.inl ⟨by rfl, ?_⟩) ?_
  rotate_left 1
  · intro w hSw; (try dsimp only at hSw); go_split_ands; (first | (go_simp; done) | (go_simp; with_reducible rfl))
  try simp only [Act.put, List.getElem_toArray, List.getElem_cons_zero, List.getElem_cons_succ, List.setIfInBounds_toArray, List.set_cons_zero, List.set_cons_succ]
  refine wpAnyX_takeP (i := 7) (v := ?_) rfl (by kernel_rfl) (by kernel_rfl) (by kernel_rfl) (by kernel_rfl) (fun _ _ _ h => h) (Or.inl ⟨by rfl, ?_⟩) ?_
  rotate_left 1
  · intro w hSw; (try dsimp only at hSw); go_split_ands; (first | (go_simp; done) | (go_simp; with_reducible rfl))
  try simp only [Act.put, List.getElem_toArray, List.getElem_cons_zero, List.getElem_cons_succ, List.setIfInBounds_toArray, List.set_cons_zero, List.set_cons_succ]
  refine wpAnyX_takeM (i := 2) (v := ?_) rfl (by kernel_rfl) (by kernel_rfl) (by kernel_rfl) (by kernel_rfl) (fun _ _ _ h => h) (Or.inl ⟨by rfl, ?_⟩) (by assumption) ?_
  rotate_left 1
  · intro w hSw; (try dsimp only at hSw); go_split_ands; (first | (go_simp; done) | (go_simp; with_reducible rfl))
  try simp only [Act.put, List.getElem_toArray, List.getElem_cons_zero, List.getElem_cons_succ, List.setIfInBounds_toArray, List.set_cons_zero, List.set_cons_succ]
  refine wpAnyX_takeP (i := 8) (v := ?_) rfl (by kernel_rfl) (by kernel_rfl) (by kernel_rfl) (by kernel_rfl) (fun _ _ _ h => h) (Or.inl ⟨by rfl, ?_⟩) ?_
  rotate_left 1
  · intro w hSw; (try dsimp only at hSw); go_split_ands; (first | (go_simp; done) | (go_simp; with_reducible rfl))
  try simp only [Act.put, List.getElem_toArray, List.getElem_cons_zero, List.getElem_cons_succ, List.setIfInBounds_toArray, List.set_cons_zero, List.set_cons_succ]
  refine wpAnyX_takeM (i := 9) (v := ?_) rfl (by kernel_rfl) (by kernel_rfl) (by kernel_rfl) (by kernel_rfl) (fun _ _ _ h => h) (Or.inl ⟨by rfl, ?_⟩) (by assumption) ?_
  rotate_left 1
  · intro w hSw; (try dsimp only at hSw); go_split_ands; (first | (go_simp; done) | (go_simp; with_reducible rfl))
  try simp only [Act.put, List.getElem_toArray, List.getElem_cons_zero, List.getElem_cons_succ, List.setIfInBounds_toArray, List.set_cons_zero, List.set_cons_succ]
  clear hS0
  refine wpAnyX_one (i := 10) (by kernel_rfl) rfl (fun K hK => ?_)
  go_simp
  refine hK.out _ _ (fun _ => ⟨alloc_cell (w := w.drew) s0 _, alloc_cell (w := w.drew) q0 _, alloc_cell (w := w.drew) q1 _⟩) ?_
  clear hK K
  try simp only [Act.put, List.getElem_toArray, List.getElem_cons_zero, List.getElem_cons_succ, List.setIfInBounds_toArray, List.set_cons_zero, List.set_cons_succ]
  refine wpAnyX_one (i := 11) (by kernel_rfl) rfl (fun K hK => ?_)
  go_simp
  refine hK.out _ _ (fun h => by cases h) ?_
  clear hK K
  refine wpAnyX_done (by kernel_rfl) ?_ _
  try simp only [Act.put, List.getElem_toArray, List.getElem_cons_zero, List.getElem_cons_succ, List.setIfInBounds_toArray, List.set_cons_zero, List.set_cons_succ]
  go_wp2_with fail
  have HB3 := Veil.mk (((Below.refl w.heap.size w).alloc (Nat.le_refl _) (.cells #[.int .i64 z.1, .int .i64 z.2] 118)).drew)
  have HN3 := Veil.mk ((Blk.new w #[.int .i64 z.1, .int .i64 z.2] 118).drew)
  have HH3 := Veil.mk (HH.out.step HB3.out)
  generalize (w.alloc (.cells #[.int .i64 z.1, .int .i64 z.2] 118)).drew = w3 at *
  clear s0 f0 q0 q1
  have s0 := HH3.out.box.cell 0 _ rfl
  have f0 := HH3.out.box.free 0
  rw [List.length_append] at s0
  simp only [List.length_cons, List.length_nil, Nat.zero_add] at s0
  refine wp_region_X (fun w' => w'.cell? ⟨b, 0, none⟩ = some (.slice (some ⟨g, 0, none⟩) (ys.length + 1) c)) [0, 1, 2, 4, 5, 7, 8, 9, 10, 11] (by kernel_rfl) ?_
  have hS0 : w3.drew.cell? ⟨b, 0, none⟩ = some (.slice (some ⟨g, 0, none⟩) (ys.length + 1) c) := s0
  refine wpAnyX_takeP (i := 0) (v := ?_) rfl (by kernel_rfl) (by kernel_rfl) (by kernel_rfl) (by kernel_rfl) (fun _ _ _ h => h) (Or.inl ⟨by rfl, ?_⟩) ?_
  rotate_left 1
  · intro w hSw; (try dsimp only at hSw); go_split_ands; (first | (go_simp; done) | (go_simp; with_reducible rfl))
  try simp only [Act.put, List.getElem_toArray, List.getElem_cons_zero, List.getElem_cons_succ, List.setIfInBounds_toArray, List.set_cons_zero, List.set_cons_succ]
  refine wpAnyX_takeP (i := 1) (v := ?_) rfl (by kernel_rfl) (by kernel_rfl) (by kernel_rfl) (by kernel_rfl) (fun _ _ _ h => h) (Or.inl ⟨by rfl, ?_⟩) ?_
  rotate_left 1
  · intro w hSw; (try dsimp only at hSw); go_split_ands; (first | (go_simp; done) | (go_simp; with_reducible rfl))
  try simp only [Act.put, List.getElem_toArray, List.getElem_cons_zero, List.getElem_cons_succ, List.setIfInBounds_toArray, List.set_cons_zero, List.set_cons_succ]
  refine wpAnyX_takeP (i := 2) (v := ?_) rfl (by kernel_rfl) (by kernel_rfl) (by kernel_rfl) (by kernel_rfl) (fun _ _ _ h => h) (Or.inl ⟨by rfl, ?_⟩) ?_
  rotate_left 1
  · intro w hSw; (try dsimp only at hSw); go_split_ands; (first | (go_simp; done) | (go_simp; with_reducible rfl))
  try simp only [Act.put, List.getElem_toArray, List.getElem_cons_zero, List.getElem_cons_succ, List.setIfInBounds_toArray, List.set_cons_zero, List.set_cons_succ]
  refine wpAnyX_takeP (i := 4) (v := ?_) rfl (by kernel_rfl) (by kernel_rfl) (by kernel_rfl) (by kernel_rfl) (fun _ _ _ h => h) (Or.inl ⟨by rfl, ?_⟩) ?_
  rotate_left 1
  · intro w hSw; (try dsimp only at hSw); go_split_ands; (first | (go_simp; done) | (go_simp; with_reducible rfl))
  try simp only [Act.put, List.getElem_toArray, List.getElem_cons_zero, List.getElem_cons_succ, List.setIfInBounds_toArray, List.set_cons_zero, List.set_cons_succ]
  refine wpAnyX_takeP (i := 5) (v := ?_) rfl (by kernel_rfl) (by kernel_rfl) (by kernel_rfl) (by kernel_rfl) (fun _ _ _ h => h) (Or.inl ⟨by rfl, ?_⟩) ?_
  rotate_left 1
  · intro w hSw; (try dsimp only at hSw); go_split_ands; (first | (go_simp; done) | (go_simp; with_reducible rfl))
  try simp only [Act.put, List.getElem_toArray, List.getElem_cons_zero, List.getElem_cons_succ, List.setIfInBounds_toArray, List.set_cons_zero, List.set_cons_succ]
  refine wpAnyX_takeM (i := 6) (v := ?_) rfl (by kernel_rfl) (by kernel_rfl) (by kernel_rfl) (by kernel_rfl) (fun _ _ _ h => h) (Or.inl ⟨by rfl, ?_⟩) (by assumption) ?_
  rotate_left 1
  · intro w hSw; (try dsimp only at hSw); go_split_ands; (first | (go_simp; done) | (go_simp; with_reducible rfl))
  try simp only [Act.put, List.getElem_toArray, List.getElem_cons_zero, List.getElem_cons_succ, List.setIfInBounds_toArray, List.set_cons_zero, List.set_cons_succ]
  refine wpAnyX_takeP (i := 7) (v := ?_) rfl (by kernel_rfl) (by kernel_rfl) (by kernel_rfl) (by kernel_rfl) (fun _ _ _ h => h) (Or.inl ⟨by rfl, ?_⟩) ?_
  rotate_left 1
  · intro w hSw; (try dsimp only at hSw); go_split_ands; (first | (go_simp; done) | (go_simp; with_reducible rfl))
  try simp only [Act.put, List.getElem_toArray, List.getElem_cons_zero, List.getElem_cons_succ, List.setIfInBounds_toArray, List.set_cons_zero, List.set_cons_succ]
  refine wpAnyX_takeP (i := 8) (v := ?_) rfl (by kernel_rfl) (by kernel_rfl) (by kernel_rfl) (by kernel_rfl) (fun _ _ _ h => h) (Or.inl ⟨by rfl, ?_⟩) ?_
  rotate_left 1
  · intro w hSw; (try dsimp only at hSw); go_split_ands; (first | (go_simp; done) | (go_simp; with_reducible rfl))
  try simp only [Act.put, List.getElem_toArray, List.getElem_cons_zero, List.getElem_cons_succ, List.setIfInBounds_toArray, List.set_cons_zero, List.set_cons_succ]
  refine wpAnyX_takeM (i := 3) (v := ?_) rfl (by kernel_rfl) (by kernel_rfl) (by kernel_rfl) (by kernel_rfl) (fun _ _ _ h => h) (Or.inl ⟨by rfl, ?_⟩) (by assumption) ?_
  rotate_left 1
  · intro w hSw; (try dsimp only at hSw); go_split_ands; (first | (go_simp; done) | (go_simp; with_reducible rfl))
  try simp only [Act.put, List.getElem_toArray, List.getElem_cons_zero, List.getElem_cons_succ, List.setIfInBounds_toArray, List.set_cons_zero, List.set_cons_succ]
  refine wpAnyX_takeP (i := 9) (v := ?_) rfl (by kernel_rfl) (by kernel_rfl) (by kernel_rfl) (by kernel_rfl) (fun _ _ _ h => h) (Or.inl ⟨by rfl, ?_⟩) ?_
  rotate_left 1
  · intro w hSw; (try dsimp only at hSw); go_split_ands; (first | (go_simp; done) | (go_simp; with_reducible rfl))
  try simp only [Act.put, List.getElem_toArray, List.getElem_cons_zero, List.getElem_cons_succ, List.setIfInBounds_toArray, List.set_cons_zero, List.set_cons_succ]
  clear hS0
  refine wpAnyX_one (i := 10) (by kernel_rfl) rfl (fun K hK => ?_)
  go_simp
  refine hK.out _ _ (fun h => by cases h) ?_
  clear hK K
  try simp only [Act.put, List.getElem_toArray, List.getElem_cons_zero, List.getElem_cons_succ, List.setIfInBounds_toArray, List.set_cons_zero, List.set_cons_succ]
  refine wpAnyX_one (i := 11) (by kernel_rfl) rfl (fun K hK => ?_)
  go_simp
  refine hK.out _ _ (fun h => by cases h) ?_
  clear hK K
  refine wpAnyX_done (by kernel_rfl) ?_ _
  have hne : w.heap.size ≠ b := by have := HBL.out; omega
  have HBX := Veil.mk (HH3.out.box.set 0 (.slice (some ⟨g, 0, none⟩) ys.length c))
  have HNX := Veil.mk (HN3.out.far (p := ⟨b, 0, none⟩) hne (.slice (some ⟨g, 0, none⟩) ys.length c))
  have hgb : some b ≠ (Value.slice (some ⟨g, 0, none⟩) (ys ++ [z]).length c).ownBlock := fun he => absurd ((blk_typed HH3.out.box).ne (row_typed HH3.out.row he.symm)) (by decide)
  have hrr := Kd.R_mono (Kd.R_far (p := ⟨b, 0, none⟩) (Kd.R_tight (by rfl) HH3.out.row) (fun k hk he => hgb (by rw [← hk]; exact congrArg some he.symm)) (.slice (some ⟨g, 0, none⟩) ys.length c)) (ok' := fun _ => True) (fun _ _ => trivial)
  have hrt := Kd.R_take hrr (m := ys.length) (by simp)
  rw [List.take_left' rfl] at hrt
  have HFIN : Veil (HeapAt (w3.setCell ⟨b, 0, none⟩ (.slice (some ⟨g, 0, none⟩) ys.length c)) base b (some ⟨g, 0, none⟩) c ys) := ⟨⟨HBX.out, hrt, HLW.out⟩⟩
  have HBF := Veil.mk ((HB3.out.mono (Nat.le_trans HLW.out (Nat.le_of_lt HBL.out))).setCell (p := ⟨b, 0, none⟩) HLW.out (.slice (some ⟨g, 0, none⟩) ys.length c))
  have HKF := Veil.mk ((KeepsH.ofBelow HB3.out).setCell (p := ⟨b, 0, none⟩) (.inr HTY.out) (.slice (some ⟨g, 0, none⟩) ys.length c))
  have z0 := HNX.out.cell 0 _ rfl
  have z1 := HNX.out.cell 1 _ rfl
  clear hgb hrr hrt hne s0 f0
  go_wp2
  go_ret
  exact ⟨rfl, HFIN.out.step (Below.refl _ _).drew, HBF.out.drew, HKF.out.drew⟩
end Go.Proofs.Ytjmnbbflahacoaa.Opq
