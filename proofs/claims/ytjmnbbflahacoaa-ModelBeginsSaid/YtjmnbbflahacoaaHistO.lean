/- hist, fifteenth part: a row of tries, as the sort reads and leaves it. No condition. -/
import Derived.Test.YtjmnbbflahacoaaHistN
namespace Go.Proofs.Ytjmnbbflahacoaa.Hist
open Go.RowKit Go.ChangeMaps Go.Maps Go.Shelf Go.Sort Go.Proofs.Ytjmnbbflahacoaa.Mem Go.Proofs.Ytjmnbbflahacoaa.PHistTells Go.Proofs.YtjmnbbflahacoaaW.PrintWords
set_option linter.unusedVariables false
set_option linter.unusedSimpArgs false

theorem list_of_each {α : Type} {n : Nat} {p : Nat → α → Prop} (h : ∀ i, i < n → ∃ x, p i x) : ∃ xs : List α, xs.length = n ∧ ∀ i x, xs[i]? = some x → p i x := by
  refine ⟨List.ofFn (fun i : Fin n => Classical.choose (h i.1 i.2)), by simp, fun i x hx => ?_⟩
  obtain ⟨hi, he⟩ := List.getElem?_eq_some_iff.1 hx
  simp only [List.length_ofFn] at hi
  simp only [List.getElem_ofFn] at he
  subst he
  exact Classical.choose_spec (h i hi)

/-- A row of tries, its elements with their addresses. -/
structure SortRow (w : World) (base g : Nat) (d : Array TrV) : Prop where
  holds : HoldsK encT 9 w g 0 d
  acc : ∀ x, x ∈ d.toList → kAcc.R 33 w base (fun _ => True) (.slice x.2.1 x.1.f8.length x.2.2) x.1.f8

theorem getBang {α : Type} [Inhabited α] (l : List α) (j : Nat) (x : α) (h : l[j]? = some x) : l.toArray[j]! = x := by
  obtain ⟨h1, h2⟩ := List.getElem?_eq_some_iff.1 h
  simp [h1, h2]
theorem sortRow_of {w : World} {base : Nat} {v : Value} {ts : List Tr} (h : kTr.R 29 w base (fun _ => True) v ts) (hp : 0 < ts.length) :
    ∃ g cap, ∃ d : Array TrV, v = .slice (some ⟨g, 0, none⟩) d.size cap ∧ d.toList.map (·.1) = ts ∧ SortRow w base g d ∧ base ≤ g ∧ g < w.heap.size := by
  obtain ⟨g, cap, rfl, hb, hlt, cells, hc⟩ := Kd.R_form h hp
  have hel : ∀ i, i < ts.length → ∃ x : TrV, ts[i]? = some x.1 ∧ kAcc.R 33 w base (fun _ => True) (.slice x.2.1 x.1.f8.length x.2.2) x.1.f8 ∧
      (∀ j u, (encT x)[j]? = some u → w.cell? ⟨g, i * 9 + j, none⟩ = some u) ∧ ∀ j, w.frozen? ⟨g, i * 9 + j, none⟩ = false := by
    intro i hi
    obtain ⟨cs, hcl, hM, hcc, hfr⟩ := Kd.R_elem h z29 (i : Int) (by omega) (by omega)
    simp only [Int.toNat_natCast, List.getD_eq_getElem?_getD, List.getElem?_eq_getElem hi, Option.getD_some] at hM hcc hfr
    obtain ⟨v8, rfl, hR8⟩ := k29_openM hM
    obtain ⟨A8, c8, rfl, _, _⟩ := Kd.R_reads hR8
    exact ⟨(ts[i], A8, c8), List.getElem?_eq_getElem hi, Kd.R_mono hR8 (fun _ _ => trivial), hcc, hfr⟩
  obtain ⟨xs, hxl, hxs⟩ := list_of_each hel
  have hmap : xs.map (·.1) = ts := by
    apply List.ext_getElem?
    intro j
    rw [List.getElem?_map]
    cases hj : xs[j]? with
    | none => rw [List.getElem?_eq_none (by rw [← hxl]; exact List.getElem?_eq_none_iff.1 hj)]; rfl
    | some x => rw [(hxs j x hj).1]; rfl
  refine ⟨g, cap, xs.toArray, by simp [hxl], hmap, ⟨?_, fun x hx => ?_⟩, hb, hlt⟩
  · intro j hj
    rw [size_flatK] at hj
    have hsz : xs.toArray.size = xs.length := by simp
    have hj9 : j / 9 < xs.length := by omega
    have hx := List.getElem?_eq_getElem hj9
    obtain ⟨_, _, h3, h4⟩ := hxs _ _ hx
    have hm : j % 9 < 9 := Nat.mod_lt _ (by decide)
    have hd : j / 9 * 9 + j % 9 = j := by omega
    have he : (encT xs[j / 9])[j % 9]? = some (encT xs[j / 9])[j % 9]! := by
      have hl9 : (encT xs[j / 9]).length = 9 := rfl
      rw [List.getElem?_eq_getElem (by rw [hl9]; exact hm), List.getElem!_eq_getElem?_getD, List.getElem?_eq_getElem (by rw [hl9]; exact hm)]
      rfl
    have h5 := h3 _ _ he
    have h6 := h4 (j % 9)
    rw [hd] at h5 h6
    rw [get_flatK encT 9 xs.toArray j hj, getBang xs _ _ hx, Nat.zero_add]
    exact ⟨h5, h6⟩
  · obtain ⟨j, hj⟩ := List.getElem?_of_mem (show x ∈ xs from hx)
    exact (hxs j x hj).2.1

theorem flat_get (d : Array TrV) (j : Nat) (x : TrV) (hx : d.toList[j]? = some x) (i : Nat) (hi : i < 9) : (flatK encT 9 d).toList[j * 9 + i]? = (encT x)[i]? := by
  obtain ⟨h1, h2⟩ := List.getElem?_eq_some_iff.1 hx
  have hj : j < d.size := by simpa using h1
  have hlt : j * 9 + i < d.size * 9 := by omega
  have h3 := get_flatK encT 9 d (j * 9 + i) hlt
  rw [show (j * 9 + i) / 9 = j by omega, show (j * 9 + i) % 9 = i by omega] at h3
  have hdx : d[j]! = x := by
    rw [getElem!_pos d j hj]
    exact h2
  rw [hdx] at h3
  have hsz : j * 9 + i < (flatK encT 9 d).size := by rw [size_flatK]; exact hlt
  rw [getElem!_pos (flatK encT 9 d) (j * 9 + i) hsz] at h3
  have hl9 : (encT x).length = 9 := rfl
  rw [List.getElem?_eq_getElem (by simpa using hsz), List.getElem?_eq_getElem (by rw [hl9]; exact hi)]
  rw [getElem!_pos (encT x) i (by rw [hl9]; exact hi)] at h3
  exact congrArg some h3

theorem put_take (F cur : Array Value) (h : F.size ≤ cur.size) : (putCells id 0 F cur).toList.take F.size = F.toList := by
  apply List.ext_getElem?
  intro i
  rw [List.getElem?_take]
  by_cases hi : i < F.size
  · rw [if_pos hi]
    have hc : i < cur.size := by omega
    simp [putCells, hi, hc]
  · rw [if_neg hi, List.getElem?_eq_none (by simpa using hi)]
theorem sortWorld_heap (w : World) (g m : Nat) (d : Array TrV) (os : Array Obj) (cur : Array Value) (T : Nat) (fr : Nat × Nat) (h : w.heap[g]? = some (.cells cur T fr)) :
    (sortWorldK encT 9 w g 0 m d os).heap[g]? = some (.cells (putCells id 0 (flatK encT 9 d) cur) T fr) := by
  have hlt := (Array.getElem?_eq_some_iff.1 h).1
  show ((w.heap.modify g (onCells (putCells id 0 (flatK encT 9 d)))) ++ os)[g]? = _
  rw [Array.getElem?_append_left (by simpa using hlt), Array.getElem?_modify, if_pos rfl, h]
  rfl
theorem sortWorld_other (w : World) (g m : Nat) (d : Array TrV) (os : Array Obj) (k : Nat) (hk : k < w.heap.size) (hn : k ≠ g) : (sortWorldK encT 9 w g 0 m d os).heap[k]? = w.heap[k]? := by
  show ((w.heap.modify g (onCells (putCells id 0 (flatK encT 9 d)))) ++ os)[k]? = _
  rw [Array.getElem?_append_left (by simpa using hk), Array.getElem?_modify, if_neg (Ne.symm hn)]

/-- Behind the sort: the row is one of tries, as before. -/
theorem row_of_sort {w : World} {base g cap n : Nat} {ts : List Tr} {d d' : Array TrV} {m : Nat} {os : Array Obj} (h : kTr.R 29 w base (fun _ => True) (.slice (some ⟨g, 0, none⟩) n cap) ts) (hd : SortRow w base g d) (hsz : d'.size = ts.length)
    (hmem : ∀ x, x ∈ d'.toList → x ∈ d.toList) : kTr.R 29 (sortWorldK encT 9 w g 0 m d' os) base (fun _ => True) (.slice (some ⟨g, 0, none⟩) n cap) (d'.toList.map (·.1)) := by
  have hty : Typed w g 29 := row_typed h rfl
  obtain ⟨_, inner, ⟨h1, h2⟩, hl, hr⟩ := h
  rcases h2 with ⟨hv, _⟩ | ⟨g', cap', cur, hv, hb, hh, hn, hm, hs, ht⟩
  · cases hv
  injection hv with ha hn' hc'
  injection ha with ha
  injection ha with ha
  subst ha hc'
  have hfl : (flatK encT 9 d').toList.length = inner.length := by
    have : (flatK encT 9 d').toList.length = d'.size * 9 := by simp
    rw [this, hl, hsz]
    rfl
  have hcur : inner.length ≤ cur.size := by
    have := congrArg List.length ht
    rw [List.length_take] at this
    simp at this
    omega
  refine ⟨fun _ _ => trivial, (flatK encT 9 d').toList, ⟨by rw [hfl]; simpa [hsz] using h1, .inr ⟨g, cap, putCells id 0 (flatK encT 9 d') cur, by rw [hn']; simp [hsz], hb, sortWorld_heap w g m d' os cur _ _ hh, ?_, hm, by simpa [putCells] using hs, ?_⟩⟩, ?_, ?_⟩
  · simpa [putCells, hsz] using hn
  · have h9 : (d'.toList.map (·.1)).length * kTr.sz = (flatK encT 9 d').size := by rw [size_flatK]; simp; rfl
    rw [h9]
    exact put_take _ _ (by have : (flatK encT 9 d').size = (flatK encT 9 d').toList.length := by simp
                           omega)
  · rw [hfl, hl]; simp [hsz]
  · intro j p hj
    rw [List.getElem?_map] at hj
    cases hx : d'.toList[j]? with
    | none => rw [hx] at hj; cases hj
    | some x =>
      rw [hx] at hj
      injection hj with hj
      have hchunk : ((flatK encT 9 d').toList.drop (j * 9)).take 9 = encT x := by
        apply List.ext_getElem?
        intro i
        rw [List.getElem?_take]
        by_cases hi : i < 9
        · rw [if_pos hi, List.getElem?_drop, flat_get d' j x hx i hi]
        · rw [if_neg hi, List.getElem?_eq_none (by show 9 ≤ i; omega)]
      show kTr.M _ _ _ p (((flatK encT 9 d').toList.drop (j * 9)).take 9)
      rw [hchunk, ← hj]
      refine k29_mkM _ _ _ x.1 ?_
      have ha := hd.acc x (hmem x (List.mem_of_getElem? hx))
      have hne : ∀ k, (Value.slice x.2.1 x.1.f8.length x.2.2).ownBlock = some k → k ≠ g := fun k hk e => by
        rw [e] at hk
        exact absurd (hty.ne (row_typed ha hk)) (by decide)
      exact Kd.R_mono (Kd.R_step (Kd.R_tight (by rfl) ha) (fun k hk hlt => sortWorld_other w g m d' os k hlt (hne k hk.symm))) (fun k hk => ⟨trivial, fun e => by
        injection e with e
        exact hne k hk.symm e⟩)
end Go.Proofs.Ytjmnbbflahacoaa.Hist
