/- How an argument that is a slice (of structs, of slices) reads, in the words of the print's kinds. No condition. -/
import Derived.Test.YtjmnbbflahacoaaKit
import Derived.Test.YtjmnbbflahacoaaWWords
namespace Go.Proofs.Ytjmnbbflahacoaa.Kit
open Go.ChangeShapes Go.WideShapes Go.ChangeAt Go.RowKit Go.Proofs.YtjmnbbflahacoaaW.PrintWords
set_option linter.unusedVariables false

/-- What reads as data of the type t is of the kind d. -/
def Opens {α : Type} (P : Program) (t : TypeId) (d : Kd α) : Prop :=
  ∀ (H : Type) (enc : TypeId × Value → H) (w : World) (fuel : Nat) (cs : List Value) (x : DataW H × List MemPlace),
    DataW.trod enc P w 0 (fun _ => true) true fuel t cs = some x → ∃ a, d.K w a cs

theorem opens_int {P : Program} {t : TypeId} {k : IntKind} (ht : P.underlying t = some (.int k)) : Opens P t (Kd.int k) := by
  intro H enc w fuel cs x h
  obtain ⟨n, rfl, _⟩ := DataW.trod_int ht h
  exact ⟨n, rfl⟩

theorem list_of_lt {α : Type} {n : Nat} {p : Nat → α → Prop} (h : ∀ i, i < n → ∃ x, p i x) : ∃ xs : List α, xs.length = n ∧ ∀ i x, xs[i]? = some x → p i x := by
  refine ⟨List.ofFn (fun i : Fin n => Classical.choose (h i.1 i.2)), by simp, fun i x hx => ?_⟩
  obtain ⟨hi, he⟩ := List.getElem?_eq_some_iff.1 hx
  simp only [List.length_ofFn] at hi
  simp only [List.getElem_ofFn] at he
  subst he
  exact Classical.choose_spec (h i hi)

theorem opens_row {α : Type} {P : Program} {t e : TypeId} {d : Kd α} (ht : P.underlying t = some (.slice e)) (hc : P.cellsOf e = d.sz) (ho : Opens P e d)
    {H : Type} {enc : TypeId × Value → H} {w : World} {fuel : Nat} {cs : List Value} {x : DataW H × List MemPlace} (h : DataW.trod enc P w 0 (fun _ => true) true fuel t cs = some x) :
    ∃ A c xs, cs = [.slice A xs.length c] ∧ xs.length ≤ c ∧ d.C w A xs.length xs := by
  rcases Go.Deep.open_slice ht h with ⟨rfl, _⟩ | ⟨a, len, cap, m, n, D, Pl, rfl, _, hl, hm, hmm, _, hx⟩
  · exact ⟨none, 0, [], rfl, Nat.le_refl _, rfl, by simp, fun h => absurd h (by simp)⟩
  simp only [if_true] at hmm
  obtain ⟨xs, hlen, hxs⟩ := list_of_lt (n := len) (p := fun i y => ∃ c, c.length = d.sz ∧ d.K w y c ∧ ∀ j u, c[j]? = some u → w.cell? (a.add (i * d.sz + j)) = some u) (fun i hi => by
    obtain ⟨cs', h1, h2⟩ := hx i (by omega)
    obtain ⟨y, hy⟩ := ho H enc w n cs' _ h2
    obtain ⟨_, hcl, hcc⟩ := World.cells?_some h1
    rw [hc] at hcl hcc
    refine ⟨y, cs', hcl, hy, fun j u hu => ?_⟩
    have hj : j < d.sz := by rw [← hcl]; exact (List.getElem?_eq_some_iff.1 hu).1
    have := hcc j hj
    rw [Go.Deep.add_add] at this
    rw [this, hu])
  subst hlen
  refine ⟨some a, cap, xs, rfl, hl, rfl, ?_, fun _ => ⟨a, rfl, hxs⟩⟩
  simp only [maxLen] at hm
  omega

theorem opens_slice {α : Type} {P : Program} {t e : TypeId} {d : Kd α} (q : Nat) (ht : P.underlying t = some (.slice e)) (hc : P.cellsOf e = d.sz) (ho : Opens P e d) : Opens P t (Kd.slice q d) := by
  intro H enc w fuel cs x h
  obtain ⟨A, c, xs, rfl, hl, hr⟩ := opens_row ht hc ho h
  exact ⟨xs, A, c, rfl, hl, hr⟩

/-- A struct whose fields are all int or int64, one cell each. -/
def plainI64 (P : Program) (fs : Array Field) : Bool :=
  fs.toList.zipIdx.all fun x => (x.1.offset == x.2 && P.cellsOf x.1.type == 1) && match P.underlying x.1.type with | some (.int .i64) => true | _ => false

theorem open_i64s {P : Program} {t : TypeId} {fs : Array Field} (ht : P.underlying t = some (.struct fs)) (hp : plainI64 P fs = true) (hc : P.cellsOf t = fs.size)
    {H : Type} {enc : TypeId × Value → H} {w : World} {fuel : Nat} {cs : List Value} {x : DataW H × List MemPlace} (h : DataW.trod enc P w 0 (fun _ => true) true fuel t cs = some x) :
    ∃ zs : List Int, zs.length = fs.size ∧ cs = zs.map (Value.int .i64) ∧ ∀ (i : Nat) (z : Int), zs[i]? = some z → (Lit.int .i64 z).wf = true := by
  obtain ⟨xs, m, _, _, hl, hlen, hf⟩ := DataW.trod_struct ht h
  rw [hc] at hl
  obtain ⟨zs, hzl, hz⟩ := list_of_lt (n := fs.size) (p := fun i z => cs[i]? = some (Value.int .i64 z) ∧ (Lit.int .i64 z).wf = true) (fun i hi => by
    have hfi : fs[i]? = some fs[i] := Array.getElem?_eq_getElem hi
    have hq := List.all_eq_true.1 hp (fs[i], i) (by
      rw [List.mem_zipIdx_iff_getElem?]; simp)
    simp only [Bool.and_eq_true, beq_iff_eq] at hq
    obtain ⟨⟨ho, hcell⟩, hu⟩ := hq
    have hu' : P.underlying fs[i].type = some (.int .i64) := by
      revert hu
      split
      · intro _; assumption
      · intro hh; cases hh
    have h1 := hf i _ hfi
    rw [ho, hcell] at h1
    have hi' : i < cs.length := by omega
    have hx : xs[i]? = some xs[i] := List.getElem?_eq_getElem (by omega)
    have htk : (cs.drop i).take 1 = [cs[i]] := by
      rw [List.drop_eq_getElem_cons hi', List.take_succ_cons, List.take_zero]
    rw [htk, hx] at h1
    obtain ⟨n, he, _, hw⟩ := DataW.trod_int hu' h1
    refine ⟨n, ?_, hw⟩
    rw [List.getElem?_eq_getElem hi']
    simpa using he)
  refine ⟨zs, hzl, ?_, fun i z h => (hz i z h).2⟩
  apply List.ext_getElem?
  intro i
  by_cases hi : i < fs.size
  · have h1 := hz i zs[i] (List.getElem?_eq_getElem (by omega))
    rw [h1.1, List.getElem?_map, List.getElem?_eq_getElem (by omega)]; rfl
  · rw [List.getElem?_eq_none (by omega), List.getElem?_eq_none (by simp; omega)]

/-- A slice argument, opened. -/
theorem open_kd {α : Type} {P : Program} {t e : TypeId} {d : Kd α} (ht : P.underlying t = some (.slice e)) (hc : P.cellsOf e = d.sz) (ho : Opens P e d)
    {H : Type} {enc : TypeId × Value → H} {w : World} {base : Nat} {r : Reach} {v : Value} {x : DataW H} {p : List MemPlace}
    (hv : Value.okWide P w r base t v) (h : DataW.Trod enc P w 0 (fun _ => true) true t v x p) :
    ∃ A c xs, v = .slice A xs.length c ∧ xs.length ≤ c ∧ d.C w A xs.length xs := by
  obtain ⟨a, len, cap, rfl⟩ := okWide_slice ht hv
  obtain ⟨fuel, hf⟩ := h
  obtain ⟨A, c, xs, he, hl, hr⟩ := opens_row ht hc ho hf
  refine ⟨A, c, xs, ?_, hl, hr⟩
  simpa [Value.cells] using he
end Go.Proofs.Ytjmnbbflahacoaa.Kit
