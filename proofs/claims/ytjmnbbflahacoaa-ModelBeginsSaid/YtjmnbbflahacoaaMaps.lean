/- Maps that the call makes, whatever their elements are (pointers, numbers, bools), as functions of the key's value: look-up, 'm[k] = v' of both makes, delete. No condition. -/
import Derived.Test.YtjmnbbflahacoaaMem
import Derived.Maps.Keyed
import Derived.WideKeyEntry
import Derived.DeepKeys4
import Derived.Carry
namespace Go.Proofs.Ytjmnbbflahacoaa.Mem
open Go.RowKit Go.Maps Go.ChangeMaps
set_option linter.unusedVariables false
set_option linter.unusedSimpArgs false

/-- What an array of entries says of a key. -/
structure Says (P : Program) (K : TypeId) (es : Array MapEntry) (clock : Nat) (m : Value → Option Value) : Prop where
  keys : ∀ e ∈ es.toList, ∃ l, keyOf P K e.key = some l
  apart : es.toList.Pairwise (fun a b => a.key ≠ b.key)
  born : ∀ e ∈ es.toList, e.born < clock
  borns : (es.toList.map (·.born)).Nodup
  says : ∀ x v, m x = some v ↔ ∃ e ∈ es.toList, e.key = x ∧ e.val = v

/-- Block b of w is a map that says m. -/
def MapAt (P : Program) (K : TypeId) (w : World) (b : Nat) (m : Value → Option Value) : Prop :=
  ∃ es clock, w.heap[b]? = some (.map es clock) ∧ Says P K es clock m

theorem MapAt.lt {P : Program} {K : TypeId} {w : World} {b : Nat} {m : Value → Option Value} (h : MapAt P K w b m) : b < w.heap.size := by
  obtain ⟨es, clock, hb, _⟩ := h
  exact (Array.getElem?_eq_some_iff.1 hb).1
theorem MapAt.same {P : Program} {K : TypeId} {w w' : World} {b : Nat} {m : Value → Option Value} (h : MapAt P K w b m) (hs : w'.heap[b]? = w.heap[b]?) : MapAt P K w' b m := by
  obtain ⟨es, clock, hb, hs'⟩ := h
  exact ⟨es, clock, hs.trans hb, hs'⟩
theorem MapAt.upd {P : Program} {K : TypeId} {S : Nat → Prop} {w w' : World} {b : Nat} {m : Value → Option Value} (h : MapAt P K w b m) (hu : Upd S w w') (hn : ¬ S b) : MapAt P K w' b m := h.same (hu.block b h.lt hn)
theorem MapAt.not_blk {P : Program} {K : TypeId} {w : World} {b b' T : Nat} {cs : List Value} {m : Value → Option Value} (h : MapAt P K w b m) (h' : Blk w b' T cs) : b ≠ b' := by
  rintro rfl
  obtain ⟨es, clock, hb, _⟩ := h
  unfold Blk at h'
  rw [hb] at h'
  cases h'
theorem MapAt.ext {P : Program} {K : TypeId} {w : World} {b : Nat} {m m' : Value → Option Value} (h : MapAt P K w b m) (he : ∀ x, m' x = m x) : MapAt P K w b m' := by
  obtain ⟨es, clock, hb, h1, h2, h3, h4, h5⟩ := h
  exact ⟨es, clock, hb, h1, h2, h3, h4, fun x v => by rw [he]; exact h5 x v⟩
theorem MapAt.made (P : Program) (K : TypeId) (w : World) : MapAt P K (w.alloc (.map #[] 0)) w.heap.size (fun _ => none) :=
  ⟨#[], 0, by show (w.heap.push _)[w.heap.size]? = _; simp, by simp, by simp, by simp, by simp, fun x v => by simp⟩

theorem Says.none {P : Program} {K : TypeId} {es : Array MapEntry} {clock : Nat} {m : Value → Option Value} (h : Says P K es clock m) {x : Value} (hx : ∀ e ∈ es.toList, e.key ≠ x) : m x = none := by
  cases hm : m x with
  | none => rfl
  | some v =>
    obtain ⟨e, he, hk, _⟩ := (h.says x v).1 hm
    exact absurd hk (hx e he)

/-- m, told anew at x. -/
noncomputable def put (m : Value → Option Value) (x v : Value) : Value → Option Value := fun y => by
  classical exact if y = x then some v else m y
theorem put_same (m : Value → Option Value) (x v : Value) : put m x v x = some v := by unfold put; simp
theorem put_other (m : Value → Option Value) {x y : Value} (v : Value) (h : y ≠ x) : put m x v y = m y := by unfold put; simp [h]

theorem says_push {P : Program} {K : TypeId} {es : Array MapEntry} {clock : Nat} {m : Value → Option Value} (h : Says P K es clock m) {x v : Value} {l : Lit} (hx : keyOf P K x = some l) (hn : ∀ e ∈ es.toList, e.key ≠ x) :
    Says P K (es.push ⟨x, v, clock⟩) (clock + 1) (put m x v) := by
  refine ⟨?_, ?_, ?_, ?_, ?_⟩
  · intro e he
    simp only [Array.toList_push, List.mem_append, List.mem_singleton] at he
    rcases he with he | rfl
    · exact h.keys e he
    · exact ⟨l, hx⟩
  · rw [Array.toList_push, List.pairwise_append]
    exact ⟨h.apart, by simp, fun a ha b hb => by rw [List.mem_singleton.1 hb]; exact hn a ha⟩
  · intro e he
    simp only [Array.toList_push, List.mem_append, List.mem_singleton] at he
    rcases he with he | rfl
    · have := h.born e he; omega
    · simp
  · rw [Array.toList_push, List.map_append, List.nodup_append]
    refine ⟨h.borns, by simp, fun a ha c hc e1 => ?_⟩
    simp only [List.map_cons, List.map_nil, List.mem_singleton] at hc
    obtain ⟨y, hy, rfl⟩ := List.mem_map.1 ha
    have := h.born y hy
    omega
  · intro y u
    simp only [Array.toList_push, List.mem_append, List.mem_singleton]
    by_cases e : y = x
    · subst e
      rw [put_same]
      constructor
      · intro hu
        injection hu with hu
        exact ⟨_, .inr rfl, rfl, hu⟩
      · rintro ⟨e, he | rfl, hk, hv⟩
        · exact absurd hk (hn e he)
        · exact congrArg some hv
    · rw [put_other _ _ e, h.says y u]
      constructor
      · rintro ⟨e', he, hh⟩
        exact ⟨e', .inl he, hh⟩
      · rintro ⟨e', he | rfl, hh⟩
        · exact ⟨e', he, hh⟩
        · exact absurd hh.1.symm e

theorem says_modify {P : Program} {K : TypeId} {es : Array MapEntry} {clock : Nat} {m : Value → Option Value} (h : Says P K es clock m) {x v : Value} {l : Lit} (hx : keyOf P K x = some l) {j : Nat} {e0 : MapEntry} (hj : es.toList[j]? = some e0) (hk : e0.key = x) :
    Says P K (es.modify j fun e => { e with val := v }) clock (put m x v) := by
  have hset : (es.modify j fun e => { e with val := v }).toList = es.toList.set j { e0 with val := v } := by
    rw [Array.toList_modify, modify_eq_set _ _ _ _ hj]
  have hjl : j < es.toList.length := (List.getElem?_eq_some_iff.1 hj).1
  have hmem : ∀ e ∈ es.toList.set j { e0 with val := v }, e = { e0 with val := v } ∨ (e ∈ es.toList ∧ e.key ≠ x) := by
    intro e he
    obtain ⟨i, hi, rfl⟩ := List.getElem_of_mem he
    simp only [List.length_set] at hi
    by_cases hij : j = i
    · subst hij; left; simp
    · right
      rw [List.getElem_set_ne hij]
      refine ⟨List.getElem_mem _, fun hkx => ?_⟩
      have hp := List.pairwise_iff_getElem.1 h.apart
      have e0' := (List.getElem?_eq_some_iff.1 hj).2
      rcases Nat.lt_or_ge i j with hlt | hge
      · exact hp i j hi hjl hlt (by rw [hkx, e0', hk])
      · exact hp j i hjl hi (by omega) (by rw [hkx, e0', hk])
  have hkeys : (es.toList.set j { e0 with val := v }).map (·.key) = es.toList.map (·.key) := by
    apply List.ext_getElem?
    intro i
    simp only [List.getElem?_map, List.getElem?_set]
    split
    · rename_i hij
      subst hij
      simp [hj]
    · rfl
  have hborns : (es.toList.set j { e0 with val := v }).map (·.born) = es.toList.map (·.born) := by
    apply List.ext_getElem?
    intro i
    simp only [List.getElem?_map, List.getElem?_set]
    split
    · rename_i hij
      subst hij
      simp [hj]
    · rfl
  have h0 : e0 ∈ es.toList := List.mem_of_getElem? hj
  refine ⟨?_, ?_, ?_, ?_, ?_⟩
  · rw [hset]
    intro e he
    rcases hmem e he with rfl | ⟨he, _⟩
    · exact h.keys e0 h0
    · exact h.keys e he
  · rw [hset]
    have : (es.toList.map (·.key)).Pairwise (· ≠ ·) := List.pairwise_map.2 h.apart
    rw [← hkeys] at this
    exact List.pairwise_map.1 this
  · rw [hset]
    intro e he
    rcases hmem e he with rfl | ⟨he, _⟩
    · exact h.born e0 h0
    · exact h.born e he
  · rw [hset, hborns]; exact h.borns
  · intro y u
    rw [hset]
    by_cases e : y = x
    · subst e
      rw [put_same]
      constructor
      · intro hu
        injection hu with hu
        exact ⟨{ e0 with val := v }, List.mem_of_getElem? (i := j) (by rw [List.getElem?_set_self hjl]), hk, hu⟩
      · rintro ⟨e', he, hh, hv⟩
        rcases hmem e' he with rfl | ⟨_, hne⟩
        · exact congrArg some hv
        · exact absurd hh hne
    · rw [put_other _ _ e, h.says y u]
      constructor
      · rintro ⟨e', he, hh, hv⟩
        obtain ⟨i, hi, hie⟩ := List.getElem_of_mem he
        have hij : j ≠ i := by
          rintro rfl
          rw [(List.getElem?_eq_some_iff.1 hj).2] at hie
          subst hie
          exact e (hh.symm.trans hk)
        exact ⟨e', List.mem_of_getElem? (i := i) (by rw [List.getElem?_set_ne hij, List.getElem?_eq_getElem hi, hie]), hh, hv⟩
      · rintro ⟨e', he, hh, hv⟩
        rcases hmem e' he with rfl | ⟨he, _⟩
        · exact absurd (hh.symm.trans hk) e
        · exact ⟨e', he, hh, hv⟩

section
variable {P : Program} {T K E : TypeId} {w : World} {b : Nat} {m : Value → Option Value} {x z : Value} {l : Lit}

theorem run_lookup (hk : Keyed P K) (ht : P.underlying T = some (.map K E)) (hz : ∀ u : World, (zeroValue E).run P u = .ok z u) (hx : keyOf P K x = some l) (h : MapAt P K w b m) :
    (Instr.lookup T (.map (some b)) x false).run P w = .ok ((m x).getD z) w := by
  obtain ⟨es, clock, hb, hs⟩ := h
  rcases hk.find w hx es.toList hs.keys with ⟨h1, h2⟩ | ⟨j, e0, h1, h2, h3⟩
  · rw [hs.none h2]
    simp [Instr.lookup, run_underlying ht, MapKept.run_getObj_map hb, hk.check w _ hx, h1, hz, Result.andThen]
  · have : m x = some e0.val := (hs.says x _).2 ⟨e0, List.mem_of_getElem? h2, h3, rfl⟩
    rw [this]
    simp [Instr.lookup, run_underlying ht, MapKept.run_getObj_map hb, hk.check w _ hx, h1, Result.andThen]

theorem run_lookup_ok (hk : Keyed P K) (ht : P.underlying T = some (.map K E)) (hz : ∀ u : World, (zeroValue E).run P u = .ok z u) (hx : keyOf P K x = some l) (h : MapAt P K w b m) :
    (Instr.lookup T (.map (some b)) x true).run P w = .ok (.tuple #[(m x).getD z, .bool (m x).isSome]) w := by
  obtain ⟨es, clock, hb, hs⟩ := h
  rcases hk.find w hx es.toList hs.keys with ⟨h1, h2⟩ | ⟨j, e0, h1, h2, h3⟩
  · rw [hs.none h2]
    simp [Instr.lookup, run_underlying ht, MapKept.run_getObj_map hb, hk.check w _ hx, h1, hz, Result.andThen]
  · have : m x = some e0.val := (hs.says x _).2 ⟨e0, List.mem_of_getElem? h2, h3, rfl⟩
    rw [this]
    simp [Instr.lookup, run_underlying ht, MapKept.run_getObj_map hb, hk.check w _ hx, h1, Result.andThen]

theorem mapAt_set {es : Array MapEntry} {clock : Nat} (hb : b < w.heap.size) (h : Says P K es clock m) : MapAt P K (setBlock w b (.map es clock)) b m :=
  ⟨es, clock, by simp [setBlock, hb], h⟩

/-- 'm[k] = v', of the make that lays an entry first: the two steps. -/
theorem run_entry (hk : Keyed P K) (ht : P.underlying T = some (.map K E)) (hz : ∀ u : World, (zeroValue E).run P u = .ok z u) (hx : keyOf P K x = some l) (h : MapAt P K w b m) :
    ∃ (v0 : Value) (st : Int) (o1 : Obj), (Instr.mapEntry T (.map (some b)) x).run P w = .ok (.tuple #[v0, .int .i64 st]) (setBlock w b o1) ∧
      ∀ (w2 : World) (v : Value), w2.heap[b]? = some o1 → ∃ o2, (Instr.entryStore T (.map (some b)) (.int .i64 st) v).run P w2 = .ok () (setBlock w2 b o2) ∧ MapAt P K (setBlock w2 b o2) b (put m x v) := by
  obtain ⟨es, clock, hb, hs⟩ := h
  rcases hk.find w hx es.toList hs.keys with ⟨h1, h2⟩ | ⟨j, e0, h1, h2, h3⟩
  · refine ⟨z, (clock : Int), .map (es.push ⟨x, z, clock⟩) (clock + 1), ?_, fun w2 v hw2 => ⟨.map (es.push ⟨x, v, clock⟩) (clock + 1), ?_, ?_⟩⟩
    · simp [Instr.mapEntry, run_underlying ht, MapKept.run_getObj_map hb, hk.check w false hx, h1, hz, MapKept.run_setObj_map _ hb, Result.andThen, setBlock, goInt]
    · have hidx : (es.push ⟨x, z, clock⟩).findIdx? (fun e => ((e.born : Nat) : Int) == ((clock : Nat) : Int)) = some es.size := by
        rw [WideElems.findIdx_arr]
        exact WideElems.findIdx_born (l := (es.push ⟨x, z, clock⟩).toList) (j := es.size) (e0 := ⟨x, z, clock⟩) (by
          simp only [Array.toList_push, List.map_append, List.map_cons, List.map_nil]
          refine List.nodup_append.2 ⟨hs.borns, by simp, fun a ha c hc e1 => ?_⟩
          simp only [List.mem_singleton] at hc
          obtain ⟨y, hy, rfl⟩ := List.mem_map.1 ha
          have := hs.born y hy
          omega) (by simp)
      have hmod : (es.push ⟨x, z, clock⟩).modify es.size (fun e => { e with val := v }) = es.push ⟨x, v, clock⟩ := by
        apply Array.ext'
        rw [Array.toList_modify, Array.toList_push, Array.toList_push, ← Array.length_toList, WideElems.modify_last]
      simp [Instr.entryStore, MapKept.run_getObj_map hw2, asInt, asIntOf, hidx, hmod, MapKept.run_setObj_map _ hw2, Result.andThen, setBlock]
    · exact mapAt_set (Array.getElem?_eq_some_iff.1 hw2).1 (says_push hs hx h2)
  · have hj : es[j]? = some e0 := by simpa using h2
    have hsame : es.modify j (fun e => { e with key := x }) = es := by
      apply Array.ext'
      rw [Array.toList_modify, modify_eq_set _ _ _ _ h2]
      have : ({ e0 with key := x } : MapEntry) = e0 := by rw [← h3]
      rw [this]
      exact WideElems.set_self _ _ _ h2
    refine ⟨e0.val, (e0.born : Int), .map es clock, ?_, fun w2 v hw2 => ⟨.map (es.modify j (fun e => { e with val := v })) clock, ?_, ?_⟩⟩
    · simp [Instr.mapEntry, run_underlying ht, MapKept.run_getObj_map hb, hk.check w false hx, h1, hj, h3, hk.stays w hx, hsame, MapKept.run_setObj_map _ hb, Result.andThen, setBlock, goInt]
    · have hidx : es.findIdx? (fun e => ((e.born : Nat) : Int) == ((e0.born : Nat) : Int)) = some j := by
        rw [WideElems.findIdx_arr]
        exact WideElems.findIdx_born hs.borns h2
      simp [Instr.entryStore, MapKept.run_getObj_map hw2, asInt, asIntOf, hidx, MapKept.run_setObj_map _ hw2, Result.andThen, setBlock]
    · exact mapAt_set (Array.getElem?_eq_some_iff.1 hw2).1 (says_modify hs hx h2 h3)

/-- 'm[k] = v', of the make in one step. -/
theorem run_update (hk : Keyed P K) (ht : P.underlying T = some (.map K E)) (hx : keyOf P K x = some l) (h : MapAt P K w b m) (v : Value) :
    ∃ o2, (Instr.mapUpdate T (.map (some b)) x v).run P w = .ok () (setBlock w b o2) ∧ MapAt P K (setBlock w b o2) b (put m x v) := by
  obtain ⟨es, clock, hb, hs⟩ := h
  have hlt := (Array.getElem?_eq_some_iff.1 hb).1
  rcases hk.find w hx es.toList hs.keys with ⟨h1, h2⟩ | ⟨j, e0, h1, h2, h3⟩
  · refine ⟨.map (es.push ⟨x, v, clock⟩) (clock + 1), ?_, mapAt_set hlt (says_push hs hx h2)⟩
    simp [Instr.mapUpdate, run_underlying ht, MapKept.run_getObj_map hb, hk.check w false hx, h1, MapKept.run_setObj_map _ hb, Result.andThen, setBlock]
  · have hj : es[j]? = some e0 := by simpa using h2
    have hmod : es.modify j (fun e => { e with key := x, val := v }) = es.modify j (fun e => { e with val := v }) := by
      apply Array.ext'
      rw [Array.toList_modify, Array.toList_modify, modify_eq_set _ _ _ _ h2, modify_eq_set _ _ _ _ h2, ← h3]
    refine ⟨.map (es.modify j (fun e => { e with val := v })) clock, ?_, mapAt_set hlt (says_modify hs hx h2 h3)⟩
    simp [Instr.mapUpdate, run_underlying ht, MapKept.run_getObj_map hb, hk.check w false hx, h1, hj, h3, hk.stays w hx, hmod, MapKept.run_setObj_map _ hb, Result.andThen, setBlock]
end

theorem upd_setBlock {S : Nat → Prop} {a w : World} (h : Upd S a w) {b : Nat} (hb : b < a.heap.size → S b) (o : Obj) : Upd S a (setBlock w b o) :=
  h.trans' (S' := fun k => k = b) ⟨rfl, rfl, rfl, by simp [setBlock], fun k hk hn => by simp [setBlock, Ne.symm hn]⟩ (fun _ _ h => h) (fun k hk e => by subst e; exact hb hk)
theorem blk_setBlock {w : World} {b b' T : Nat} {cs : List Value} (h : Blk w b T cs) (hn : b ≠ b') (o : Obj) : Blk (setBlock w b' o) b T cs := by
  unfold Blk at h ⊢
  simpa [setBlock, Ne.symm hn] using h
theorem mapAt_setBlock {P : Program} {K : TypeId} {w : World} {b b' : Nat} {m : Value → Option Value} (h : MapAt P K w b m) (hn : b ≠ b') (o : Obj) : MapAt P K (setBlock w b' o) b m :=
  h.same (by simp [setBlock, Ne.symm hn])
end Go.Proofs.Ytjmnbbflahacoaa.Mem
