/- How an argument that is a trace reads: its events, each field an int64. No condition. -/
import Derived.Test.YtjmnbbflahacoaaKd
import Derived.Test.YtjmnbbflahacoaaHistX
namespace Go.Proofs.Ytjmnbbflahacoaa.Hist
open Go.ChangeShapes Go.WideShapes Go.ChangeAt Go.RowKit Go.Proofs.Ytjmnbbflahacoaa.Mem Go.Proofs.Ytjmnbbflahacoaa.Kit Go.Proofs.Ytjmnbbflahacoaa.PHistTells Go.Proofs.YtjmnbbflahacoaaW.PrintWords
set_option linter.unusedVariables false

/-- A kind, of those for which p. -/
def such {α : Type} (d : Kd α) (p : α → Prop) : Kd α where
  sz := d.sz
  E := d.E
  K := fun w x cs => d.K w x cs ∧ p x
  M := fun w base ok x cs => d.M w base ok x cs ∧ p x
  K_len := fun h => d.K_len h.1
  K_one := fun h => d.K_one h.1
  K_below := fun hb h => ⟨d.K_below hb h.1, h.2⟩
  K_of_M := fun h => ⟨d.K_of_M h.1, h.2⟩
  M_mono := fun hok h => ⟨d.M_mono hok h.1, h.2⟩
  M_bound := fun h => ⟨d.M_bound h.1, h.2⟩
  M_move := fun hm h => ⟨d.M_move hm h.1, h.2⟩
  M_lower := fun hb h => ⟨d.M_lower hb h.1, h.2⟩
theorem such_C {α : Type} {d : Kd α} {p : α → Prop} {w : World} {A : Option Addr} {n : Nat} {xs : List α} (h : (such d p).C w A n xs) : d.C w A n xs ∧ ∀ x ∈ xs, p x := by
  refine ⟨⟨h.1, h.2.1, fun hp => ?_⟩, fun x hx => ?_⟩
  · obtain ⟨ad, e, hc⟩ := h.2.2 hp
    exact ⟨ad, e, fun j q hj => by obtain ⟨c, h1, h2, h3⟩ := hc j q hj; exact ⟨c, h1, h2.1, h3⟩⟩
  · obtain ⟨j, hj⟩ := List.getElem?_of_mem hx
    have hlt := (List.getElem?_eq_some_iff.1 hj).1
    obtain ⟨ad, e, hc⟩ := h.2.2 (by have := h.1; omega)
    obtain ⟨c, _, h2, _⟩ := hc j x hj
    exact h2.2

set_option maxRecDepth 100000 in
theorem opens_ev : Opens Try.prog 31 (such kEv EvOk) := by
  intro H enc w fuel cs x h
  obtain ⟨zs, hl, rfl, hw⟩ := open_i64s Try.underlying31 (by kernel_rfl) (by kernel_rfl) h
  match zs, hl with
  | [a, b, c, d, e, f, g], _ => exact ⟨⟨a, b, c, d, e, f, g⟩, k31_mk w _, ⟨hw 1 b rfl, hw 2 c rfl⟩⟩

set_option maxRecDepth 100000 in
/-- An argument that is a trace. -/
theorem open_evs {H : Type} {enc : TypeId × Value → H} {W : World} {base : Nat} {v : Value} {d : DataW H} {p : List MemPlace} (k : Value.okWide Try.prog W .any base 22 v) (h : DataW.Trod enc Try.prog W 0 (fun _ => true) true 22 v d p) :
    ∃ A c l, v = .slice A l.length c ∧ l.length ≤ c ∧ kEv.C W A l.length l ∧ ∀ e ∈ l, EvOk e := by
  obtain ⟨A, c, l, e, hl, hC⟩ := open_kd (d := such kEv EvOk) Try.underlying22 (by kernel_rfl) opens_ev k h
  obtain ⟨h1, h2⟩ := such_C hC
  exact ⟨A, c, l, e, hl, h1, h2⟩
end Go.Proofs.Ytjmnbbflahacoaa.Hist
/- How arguments that are a try, or numbers, read. No condition. -/
namespace Go.Proofs.Ytjmnbbflahacoaa.Model
open Go.ChangeShapes Go.WideShapes Go.ChangeAt Go.RowKit Go.Proofs.Ytjmnbbflahacoaa.Mem Go.Proofs.Ytjmnbbflahacoaa.Kit Go.Proofs.Ytjmnbbflahacoaa.Hist Go.Proofs.Ytjmnbbflahacoaa.PHistTells Go.Proofs.YtjmnbbflahacoaaW.PrintWords
set_option linter.unusedVariables false

/-- Fields of one cell each. -/
def ones (P : Program) (fs : Array Field) : Bool := fs.toList.zipIdx.all fun x => x.1.offset == x.2 && P.cellsOf x.1.type == 1
theorem open_ones {P : Program} {t : TypeId} {fs : Array Field} (ht : P.underlying t = some (.struct fs)) (hp : ones P fs = true) (hc : P.cellsOf t = fs.size)
    {H : Type} {enc : TypeId × Value → H} {w : World} {fuel : Nat} {cs : List Value} {x : DataW H × List MemPlace} (h : DataW.trod enc P w 0 (fun _ => true) true fuel t cs = some x) :
    cs.length = fs.size ∧ ∃ m, ∀ (i : Nat) (f : Field), fs[i]? = some f → ∃ c y, cs[i]? = some c ∧ DataW.trod enc P w 0 (fun _ => true) true m f.type [c] = some y := by
  obtain ⟨xs, m, _, _, hl, hlen, hf⟩ := DataW.trod_struct ht h
  rw [hc] at hl
  refine ⟨hl, m, fun i f hfi => ?_⟩
  have hi : i < fs.size := (Array.getElem?_eq_some_iff.1 hfi).1
  have he : fs[i] = f := (Array.getElem?_eq_some_iff.1 hfi).2
  have hq := List.all_eq_true.1 hp (f, i) (by rw [List.mem_zipIdx_iff_getElem?]; simpa using hfi)
  simp only [Bool.and_eq_true, beq_iff_eq] at hq
  obtain ⟨ho, hcell⟩ := hq
  have h1 := hf i _ hfi
  rw [ho, hcell] at h1
  have hi' : i < cs.length := by omega
  have hx : xs[i]? = some xs[i] := List.getElem?_eq_getElem (by omega)
  have htk : (cs.drop i).take 1 = [cs[i]] := by
    rw [List.drop_eq_getElem_cons hi', List.take_succ_cons, List.take_zero]
  rw [htk, hx] at h1
  exact ⟨cs[i], xs[i], List.getElem?_eq_getElem hi', h1⟩

set_option maxRecDepth 100000 in
theorem opens_acc : Opens Try.prog 33 kAcc := by
  intro H enc w fuel cs x h
  obtain ⟨hl, m, hf⟩ := open_ones Try.underlying33 (by kernel_rfl) (by kernel_rfl) h
  obtain ⟨c0, y0, e0, h0⟩ := hf 0 _ rfl
  obtain ⟨c1, y1, e1, h1⟩ := hf 1 _ rfl
  obtain ⟨c2, y2, e2, h2⟩ := hf 2 _ rfl
  obtain ⟨c3, y3, e3, h3⟩ := hf 3 _ rfl
  obtain ⟨c4, y4, e4, h4⟩ := hf 4 _ rfl
  obtain ⟨c5, y5, e5, h5⟩ := hf 5 _ rfl
  obtain ⟨n0, g0, _⟩ := DataW.trod_int Try.underlying3 h0
  obtain ⟨n1, g1, _⟩ := DataW.trod_int Try.underlying3 h1
  obtain ⟨n2, g2, _⟩ := DataW.trod_int Try.underlying3 h2
  obtain ⟨n3, g3, _⟩ := DataW.trod_int Try.underlying2 h3
  obtain ⟨n4, g4, _⟩ := DataW.trod_bool Try.underlying4 h4
  obtain ⟨n5, g5, _⟩ := DataW.trod_bool Try.underlying4 h5
  injection g0 with g0 _; injection g1 with g1 _; injection g2 with g2 _; injection g3 with g3 _; injection g4 with g4 _; injection g5 with g5 _
  subst g0 g1 g2 g3 g4 g5
  refine ⟨⟨n0, n1, n2, n3, n4, n5⟩, ?_⟩
  have hcs : cs = [.int .i64 n0, .int .i64 n1, .int .i64 n2, .int .i64 n3, .bool n4, .bool n5] := by
    match cs, hl, e0, e1, e2, e3, e4, e5 with
    | [a, b, c, d, e, f], _, e0, e1, e2, e3, e4, e5 => simp at e0 e1 e2 e3 e4 e5; simp [e0, e1, e2, e3, e4, e5]
  rw [hcs]
  exact k33_mk w ⟨n0, n1, n2, n3, n4, n5⟩

set_option maxRecDepth 100000 in
/-- An argument that is a try. -/
theorem open_try {H : Type} {enc : TypeId × Value → H} {W : World} {base : Nat} {v : Value} {d : DataW H} {p : List MemPlace} (k : Value.okWide Try.prog W .any base 29 v) (h : DataW.Trod enc Try.prog W 0 (fun _ => true) true 29 v d p) :
    ∃ (t : Tr) (A8 : Option Addr) (c8 : Nat), v = .agg #[.int .i64 t.f0, .int .i64 t.f1, .int .i64 t.f2, .int .i64 t.f3, .int .i64 t.f4, .int .i64 t.f5, .int .i64 t.f6, .bool t.f7, .slice A8 t.f8.length c8] ∧ t.f8.length ≤ c8 ∧ kAcc.C W A8 t.f8.length t.f8 := by
  obtain ⟨cs, rfl, _⟩ := okWide_struct Try.underlying29 k
  obtain ⟨fuel, hfu⟩ := h
  obtain ⟨hl, m, hf⟩ := open_ones Try.underlying29 (by kernel_rfl) (by kernel_rfl) hfu
  obtain ⟨c0, y0, e0, h0⟩ := hf 0 _ rfl
  obtain ⟨c1, y1, e1, h1⟩ := hf 1 _ rfl
  obtain ⟨c2, y2, e2, h2⟩ := hf 2 _ rfl
  obtain ⟨c3, y3, e3, h3⟩ := hf 3 _ rfl
  obtain ⟨c4, y4, e4, h4⟩ := hf 4 _ rfl
  obtain ⟨c5, y5, e5, h5⟩ := hf 5 _ rfl
  obtain ⟨c6, y6, e6, h6⟩ := hf 6 _ rfl
  obtain ⟨c7, y7, e7, h7⟩ := hf 7 _ rfl
  obtain ⟨c8, y8, e8, h8⟩ := hf 8 _ rfl
  obtain ⟨n0, g0, _⟩ := DataW.trod_int Try.underlying3 h0
  obtain ⟨n1, g1, _⟩ := DataW.trod_int Try.underlying3 h1
  obtain ⟨n2, g2, _⟩ := DataW.trod_int Try.underlying3 h2
  obtain ⟨n3, g3, _⟩ := DataW.trod_int Try.underlying3 h3
  obtain ⟨n4, g4, _⟩ := DataW.trod_int Try.underlying3 h4
  obtain ⟨n5, g5, _⟩ := DataW.trod_int Try.underlying3 h5
  obtain ⟨n6, g6, _⟩ := DataW.trod_int Try.underlying3 h6
  obtain ⟨n7, g7, _⟩ := DataW.trod_bool Try.underlying4 h7
  obtain ⟨A8, k8, xs, g8, hl8, hC8⟩ := opens_row Try.underlying27 (by kernel_rfl) opens_acc h8
  injection g0 with g0 _; injection g1 with g1 _; injection g2 with g2 _; injection g3 with g3 _; injection g4 with g4 _; injection g5 with g5 _; injection g6 with g6 _; injection g7 with g7 _; injection g8 with g8 _
  subst g0 g1 g2 g3 g4 g5 g6 g7 g8
  refine ⟨⟨n0, n1, n2, n3, n4, n5, n6, n7, xs⟩, A8, k8, ?_, hl8, hC8⟩
  have hcs : cs.toList = [.int .i64 n0, .int .i64 n1, .int .i64 n2, .int .i64 n3, .int .i64 n4, .int .i64 n5, .int .i64 n6, .bool n7, .slice A8 xs.length k8] := by
    have hl' : cs.toList.length = 9 := hl
    generalize hq : (Value.agg cs).cells.toList = ls at hl e0 e1 e2 e3 e4 e5 e6 e7 e8
    have hq' : cs.toList = ls := hq
    rw [hq']
    match ls, hl, e0, e1, e2, e3, e4, e5, e6, e7, e8 with
    | [a, b, c, d, e, f, g, h, i], _, e0, e1, e2, e3, e4, e5, e6, e7, e8 => simp at e0 e1 e2 e3 e4 e5 e6 e7 e8; simp [e0, e1, e2, e3, e4, e5, e6, e7, e8]
  congr 1
  rw [← Array.toArray_toList (xs := cs), hcs]
set_option maxRecDepth 100000 in
/-- An argument that is a row of int64s. -/
theorem open_vals {H : Type} {enc : TypeId × Value → H} {W : World} {base : Nat} {v : Value} {d : DataW H} {p : List MemPlace} (k : Value.okWide Try.prog W .any base 47 v) (h : DataW.Trod enc Try.prog W 0 (fun _ => true) true 47 v d p) :
    ∃ A c xs, v = .slice A xs.length c ∧ xs.length ≤ c ∧ (Kd.int .i64).C W A xs.length xs := open_kd Try.underlying47 (by kernel_rfl) (opens_int Try.underlying2) k h
end Go.Proofs.Ytjmnbbflahacoaa.Model
/- How an argument that is a try reads, its accesses' objects int64s. No condition. -/
namespace Go.Proofs.Ytjmnbbflahacoaa.Model
open Go.ChangeShapes Go.WideShapes Go.ChangeAt Go.RowKit Go.Proofs.Ytjmnbbflahacoaa.Mem Go.Proofs.Ytjmnbbflahacoaa.Kit Go.Proofs.Ytjmnbbflahacoaa.Hist Go.Proofs.Ytjmnbbflahacoaa.PHistTells Go.Proofs.YtjmnbbflahacoaaW.PrintWords
set_option linter.unusedVariables false

/-- An access whose object is an int64. -/
def AccOk (a : Acc) : Prop := (Lit.int .i64 a.f2).wf = true
set_option maxRecDepth 100000 in
theorem opens_accW : Opens Try.prog 33 (such kAcc AccOk) := by
  intro H enc w fuel cs x h
  obtain ⟨hl, m, hf⟩ := open_ones Try.underlying33 (by kernel_rfl) (by kernel_rfl) h
  obtain ⟨c0, y0, e0, h0⟩ := hf 0 _ rfl
  obtain ⟨c1, y1, e1, h1⟩ := hf 1 _ rfl
  obtain ⟨c2, y2, e2, h2⟩ := hf 2 _ rfl
  obtain ⟨c3, y3, e3, h3⟩ := hf 3 _ rfl
  obtain ⟨c4, y4, e4, h4⟩ := hf 4 _ rfl
  obtain ⟨c5, y5, e5, h5⟩ := hf 5 _ rfl
  obtain ⟨n0, g0, _⟩ := DataW.trod_int Try.underlying3 h0
  obtain ⟨n1, g1, _⟩ := DataW.trod_int Try.underlying3 h1
  obtain ⟨n2, g2, w2⟩ := DataW.trod_int Try.underlying3 h2
  obtain ⟨n3, g3, _⟩ := DataW.trod_int Try.underlying2 h3
  obtain ⟨n4, g4, _⟩ := DataW.trod_bool Try.underlying4 h4
  obtain ⟨n5, g5, _⟩ := DataW.trod_bool Try.underlying4 h5
  injection g0 with g0 _; injection g1 with g1 _; injection g2 with g2 _; injection g3 with g3 _; injection g4 with g4 _; injection g5 with g5 _
  subst g0 g1 g2 g3 g4 g5
  refine ⟨⟨n0, n1, n2, n3, n4, n5⟩, ?_⟩
  have hcs : cs = [.int .i64 n0, .int .i64 n1, .int .i64 n2, .int .i64 n3, .bool n4, .bool n5] := by
    match cs, hl, e0, e1, e2, e3, e4, e5 with
    | [a, b, c, d, e, f], _, e0, e1, e2, e3, e4, e5 => simp at e0 e1 e2 e3 e4 e5; simp [e0, e1, e2, e3, e4, e5]
  rw [hcs]
  exact ⟨k33_mk w ⟨n0, n1, n2, n3, n4, n5⟩, w2.2⟩

set_option maxRecDepth 100000 in
/-- An argument that is a try. -/
theorem open_tryW {H : Type} {enc : TypeId × Value → H} {W : World} {base : Nat} {v : Value} {d : DataW H} {p : List MemPlace} (k : Value.okWide Try.prog W .any base 29 v) (h : DataW.Trod enc Try.prog W 0 (fun _ => true) true 29 v d p) :
    ∃ (t : Tr) (A8 : Option Addr) (c8 : Nat), v = .agg #[.int .i64 t.f0, .int .i64 t.f1, .int .i64 t.f2, .int .i64 t.f3, .int .i64 t.f4, .int .i64 t.f5, .int .i64 t.f6, .bool t.f7, .slice A8 t.f8.length c8] ∧ t.f8.length ≤ c8 ∧ kAcc.C W A8 t.f8.length t.f8 ∧ ∀ a ∈ t.f8, AccOk a := by
  obtain ⟨cs, rfl, _⟩ := okWide_struct Try.underlying29 k
  obtain ⟨fuel, hfu⟩ := h
  obtain ⟨hl, m, hf⟩ := open_ones Try.underlying29 (by kernel_rfl) (by kernel_rfl) hfu
  obtain ⟨c0, y0, e0, h0⟩ := hf 0 _ rfl
  obtain ⟨c1, y1, e1, h1⟩ := hf 1 _ rfl
  obtain ⟨c2, y2, e2, h2⟩ := hf 2 _ rfl
  obtain ⟨c3, y3, e3, h3⟩ := hf 3 _ rfl
  obtain ⟨c4, y4, e4, h4⟩ := hf 4 _ rfl
  obtain ⟨c5, y5, e5, h5⟩ := hf 5 _ rfl
  obtain ⟨c6, y6, e6, h6⟩ := hf 6 _ rfl
  obtain ⟨c7, y7, e7, h7⟩ := hf 7 _ rfl
  obtain ⟨c8, y8, e8, h8⟩ := hf 8 _ rfl
  obtain ⟨n0, g0, _⟩ := DataW.trod_int Try.underlying3 h0
  obtain ⟨n1, g1, _⟩ := DataW.trod_int Try.underlying3 h1
  obtain ⟨n2, g2, _⟩ := DataW.trod_int Try.underlying3 h2
  obtain ⟨n3, g3, _⟩ := DataW.trod_int Try.underlying3 h3
  obtain ⟨n4, g4, _⟩ := DataW.trod_int Try.underlying3 h4
  obtain ⟨n5, g5, _⟩ := DataW.trod_int Try.underlying3 h5
  obtain ⟨n6, g6, _⟩ := DataW.trod_int Try.underlying3 h6
  obtain ⟨n7, g7, _⟩ := DataW.trod_bool Try.underlying4 h7
  obtain ⟨A8, k8, xs, g8, hl8, hC8⟩ := opens_row (d := such kAcc AccOk) Try.underlying27 (by kernel_rfl) opens_accW h8
  injection g0 with g0 _; injection g1 with g1 _; injection g2 with g2 _; injection g3 with g3 _; injection g4 with g4 _; injection g5 with g5 _; injection g6 with g6 _; injection g7 with g7 _; injection g8 with g8 _
  subst g0 g1 g2 g3 g4 g5 g6 g7 g8
  refine ⟨⟨n0, n1, n2, n3, n4, n5, n6, n7, xs⟩, A8, k8, ?_, hl8, (such_C hC8).1, (such_C hC8).2⟩
  have hcs : cs.toList = [.int .i64 n0, .int .i64 n1, .int .i64 n2, .int .i64 n3, .int .i64 n4, .int .i64 n5, .int .i64 n6, .bool n7, .slice A8 xs.length k8] := by
    have hl' : cs.toList.length = 9 := hl
    generalize hq : (Value.agg cs).cells.toList = ls at hl e0 e1 e2 e3 e4 e5 e6 e7 e8
    have hq' : cs.toList = ls := hq
    rw [hq']
    match ls, hl, e0, e1, e2, e3, e4, e5, e6, e7, e8 with
    | [a, b, c, d, e, f, g, h, i], _, e0, e1, e2, e3, e4, e5, e6, e7, e8 => simp at e0 e1 e2 e3 e4 e5 e6 e7 e8; simp [e0, e1, e2, e3, e4, e5, e6, e7, e8]
  congr 1
  rw [← Array.toArray_toList (xs := cs), hcs]
end Go.Proofs.Ytjmnbbflahacoaa.Model
