/- Small facts on worlds: what a piece of the program may have turned (Upd), and blocks whose cells are known. No condition. -/
import Derived.WalkKit
import Derived.KernelRfl
import Derived.Lib.Hide
import Derived.Deep.LoopGhost
import Derived.Deep.QuietTactic
import Derived.BigQuiet
import Derived.Deep.DeepMust
import Derived.Maps.Keyed
import Derived.WideKeyEntry
import Derived.DeepKeys4
import Derived.Carry
import Derived.OrdersHeld
import Derived.Deep.RegionHeld
import Derived.Deep.RegionLaw
import Derived.RangeFuncNested
import Derived.RangeFuncBound
import Derived.RangeFuncCalls
import Derived.RangeFuncLeaves
namespace Go.Proofs.Ytjmnbbflahacoaa.Mem
open Go.RowKit
set_option linter.unusedVariables false
set_option linter.unusedSimpArgs false

/-- A fact that the walk's simp doesn't look into. -/
structure Veil (p : Prop) : Prop where mk :: (out : p)

/-- From w to w' no block of w's but those of S has turned; no block has gone; the streams are as they were. -/
structure Upd (S : Nat → Prop) (w w' : World) : Prop where
  os : w'.os = w.os
  tape : w'.tape = w.tape
  output : w'.output = w.output
  size : w.heap.size ≤ w'.heap.size
  block : ∀ k, k < w.heap.size → ¬ S k → w'.heap[k]? = w.heap[k]?

theorem Upd.refl (S : Nat → Prop) (w : World) : Upd S w w := ⟨rfl, rfl, rfl, Nat.le_refl _, fun _ _ _ => rfl⟩
theorem Upd.trans' {S S' S'' : Nat → Prop} {a b c : World} (h : Upd S a b) (k : Upd S' b c) (h1 : ∀ k, k < a.heap.size → S k → S'' k) (h2 : ∀ k, k < a.heap.size → S' k → S'' k) : Upd S'' a c :=
  ⟨k.os.trans h.os, k.tape.trans h.tape, k.output.trans h.output, Nat.le_trans h.size k.size, fun i hi hn =>
    (k.block i (Nat.lt_of_lt_of_le hi h.size) (fun hs => hn (h2 i hi hs))).trans (h.block i hi (fun hs => hn (h1 i hi hs)))⟩
theorem Upd.trans {S : Nat → Prop} {a b c : World} (h : Upd S a b) (k : Upd S b c) : Upd S a c := h.trans' k (fun _ _ h => h) (fun _ _ h => h)
theorem Upd.mono {S S' : Nat → Prop} {a b : World} (h : Upd S a b) (hs : ∀ k, k < a.heap.size → S k → S' k) : Upd S' a b := ⟨h.os, h.tape, h.output, h.size, fun k hk hn => h.block k hk (fun h' => hn (hs k hk h'))⟩
theorem Upd.alloc {S : Nat → Prop} {a w : World} (h : Upd S a w) (o : Obj) : Upd S a (w.alloc o) :=
  h.trans' (S' := fun _ => False) ⟨rfl, rfl, rfl, by simp, fun k hk _ => Below.heap_alloc _ _ _ hk⟩ (fun _ _ h => h) (fun _ _ h => h.elim)
theorem Upd.setCell {S : Nat → Prop} {a w : World} (h : Upd S a w) {p : Addr} (hp : p.block < a.heap.size → S p.block) (u : Value) : Upd S a (w.setCell p u) :=
  h.trans' (S' := fun k => k = p.block) ⟨rfl, rfl, rfl, by simp [World.setCell], fun k hk hn => Below.heap_setCell _ _ _ _ hn⟩ (fun _ _ h => h) (fun k hk e => by subst e; exact hp hk)
theorem Upd.drew {S : Nat → Prop} {a w : World} (h : Upd S a w) : Upd S a w.drew := ⟨h.os, h.tape, h.output, h.size, h.block⟩
theorem Upd.drewN {S : Nat → Prop} {a w : World} (h : Upd S a w) (n : Nat) : Upd S a (w.drewN n) := ⟨h.os, h.tape, h.output, h.size, h.block⟩
theorem Upd.grown {S : Nat → Prop} {a w w' : World} {row : Option Nat} (h : Upd S a w) (hg : w.grownBy w' row) (hr : ∀ k, row = some k → k < a.heap.size → S k) : Upd S a w' :=
  h.trans' (S' := fun k => row = some k) ⟨hg.os, hg.tape, hg.output, hg.size, fun k hk hn => hg.block k hk (fun e => hn e.symm)⟩ (fun _ _ h => h) (fun k hk e => hr k e hk)
theorem Upd.below {S : Nat → Prop} {a w : World} {B : Nat} (h : Upd S a w) (hB : B ≤ a.heap.size) (hs : ∀ k, k < B → ¬ S k) : Below B a w := ⟨h.os, h.tape, h.output, h.size, fun k hk => h.block k (by omega) (hs k hk)⟩
theorem Upd.ofBelow {a w : World} (h : Below a.heap.size a w) (S : Nat → Prop) : Upd S a w := ⟨h.os, h.tape, h.output, h.size, fun k hk _ => h.block k hk⟩
theorem Upd.same {S : Nat → Prop} {a w : World} (h : Upd S a w) {b : Nat} {o : Obj} (hb : a.heap[b]? = some o) (hn : ¬ S b) : w.heap[b]? = some o :=
  (h.block b (Array.getElem?_eq_some_iff.1 hb).1 hn).trans hb

/-- A cell that is there is there behind a new block. -/
theorem alloc_cell {w : World} {a : Addr} {v : Value} (h : w.cell? a = some v) : ∀ o : Obj, (w.alloc o).cell? a = some v := fun o =>
  (World.cell?_of_block (w := w) (Below.heap_alloc w o a.block (World.block_lt_of_cell? w a h))).trans h

theorem alloc_frozen {w : World} {a : Addr} {x : Bool} (hlt : a.block < w.heap.size) (h : w.frozen? a = x) : ∀ o : Obj, (w.alloc o).frozen? a = x := fun o =>
  (World.frozen?_of_block (w := w) (Below.heap_alloc w o a.block hlt)).trans h

/-- Block b holds these cells, of the type T; none is frozen. -/
def Blk (w : World) (b : Nat) (T : TypeId) (cs : List Value) : Prop := w.heap[b]? = some (.cells cs.toArray T (0, 0))

theorem Blk.lt {w : World} {b T : Nat} {cs : List Value} (h : Blk w b T cs) : b < w.heap.size := (Array.getElem?_eq_some_iff.1 h).1
theorem Blk.cell {w : World} {b T : Nat} {cs : List Value} (h : Blk w b T cs) (o : Nat) (v : Value) (hv : cs[o]? = some v) : w.cell? ⟨b, o, none⟩ = some v := by
  unfold Blk at h
  simp [World.cell?, h, hv]
theorem Blk.free {w : World} {b T : Nat} {cs : List Value} (h : Blk w b T cs) (o : Nat) : w.frozen? ⟨b, o, none⟩ = false := by
  unfold Blk at h
  simp [World.frozen?, h]
theorem Blk.upd {S : Nat → Prop} {w w' : World} {b T : Nat} {cs : List Value} (h : Blk w b T cs) (hu : Upd S w w') (hn : ¬ S b) : Blk w' b T cs := hu.same h hn
theorem Blk.below {B : Nat} {w w' : World} {b T : Nat} {cs : List Value} (h : Blk w b T cs) (hu : Below B w w') (hn : b < B) : Blk w' b T cs := (hu.block b hn).trans h
theorem Blk.new (w : World) (cs : Array Value) (T : Nat) : Blk (w.alloc (.cells cs T)) w.heap.size T cs.toList := by
  unfold Blk
  show (w.heap.push _)[w.heap.size]? = _
  simp
theorem Blk.alloc {w : World} {b T : Nat} {cs : List Value} (h : Blk w b T cs) (o : Obj) : Blk (w.alloc o) b T cs := (Below.heap_alloc w o b h.lt).trans h
theorem Blk.drew {w : World} {b T : Nat} {cs : List Value} (h : Blk w b T cs) : Blk w.drew b T cs := h
theorem Blk.drewN {w : World} {b T : Nat} {cs : List Value} (h : Blk w b T cs) (n : Nat) : Blk (w.drewN n) b T cs := h
theorem Blk.set {w : World} {b T : Nat} {cs : List Value} (h : Blk w b T cs) (o : Nat) (v : Value) : Blk (w.setCell ⟨b, o, none⟩ v) b T (cs.set o v) := by
  unfold Blk at h ⊢
  have hlt := (Array.getElem?_eq_some_iff.1 h).1
  have he := (Array.getElem?_eq_some_iff.1 h).2
  simp [World.setCell, Array.getElem?_modify, h]
theorem Blk.far {w : World} {b T : Nat} {cs : List Value} (h : Blk w b T cs) {p : Addr} (hp : b ≠ p.block) (v : Value) : Blk (w.setCell p v) b T cs := (Below.heap_setCell w p v b hp).trans h
theorem Blk.type {w : World} {b T T' : Nat} {cs cs' : List Value} (h : Blk w b T cs) (h' : Blk w b T' cs') : T = T' := by
  unfold Blk at h h'
  rw [h] at h'
  injection h' with h'
  injection h' with _ h'
theorem Blk.ne {w : World} {b b' T T' : Nat} {cs cs' : List Value} (h : Blk w b T cs) (h' : Blk w b' T' cs') (hT : T ≠ T') : b ≠ b' := by
  rintro rfl
  exact hT (h.type h')
end Go.Proofs.Ytjmnbbflahacoaa.Mem
/- Maps that the call makes, whatever their elements are (pointers, numbers, bools), as functions of the key's value: look-up, 'm[k] = v' of both makes, delete. No condition. -/
namespace Go.Proofs.Ytjmnbbflahacoaa.Mem
open Go.RowKit Go.Maps Go.ChangeMaps
set_option linter.unusedVariables false
set_option linter.unusedSimpArgs false

/-- What an array of entries says of a key. -/
structure Says (P : Program) (K : TypeId) (es : Array MapEntry) (clock : Nat) (m : Value → Option Value) : Prop where
  keys : ∀ e ∈ es.toList, ∃ l, keyOf P K e.key = some l
  apart : es.toList.Pairwise (fun a b => a.key ≠ b.key)
  born : ∀ e ∈ es.toList, e.born < clock
  borns : (es.toList.map (·.born)).Nodup
  says : ∀ x v, m x = some v ↔ ∃ e ∈ es.toList, e.key = x ∧ e.val = v

/-- Block b of w is a map that says m. -/
def MapAt (P : Program) (K : TypeId) (w : World) (b : Nat) (m : Value → Option Value) : Prop :=
  ∃ es clock, w.heap[b]? = some (.map es clock) ∧ Says P K es clock m

theorem MapAt.lt {P : Program} {K : TypeId} {w : World} {b : Nat} {m : Value → Option Value} (h : MapAt P K w b m) : b < w.heap.size := by
  obtain ⟨es, clock, hb, _⟩ := h
  exact (Array.getElem?_eq_some_iff.1 hb).1
theorem MapAt.same {P : Program} {K : TypeId} {w w' : World} {b : Nat} {m : Value → Option Value} (h : MapAt P K w b m) (hs : w'.heap[b]? = w.heap[b]?) : MapAt P K w' b m := by
  obtain ⟨es, clock, hb, hs'⟩ := h
  exact ⟨es, clock, hs.trans hb, hs'⟩
theorem MapAt.upd {P : Program} {K : TypeId} {S : Nat → Prop} {w w' : World} {b : Nat} {m : Value → Option Value} (h : MapAt P K w b m) (hu : Upd S w w') (hn : ¬ S b) : MapAt P K w' b m := h.same (hu.block b h.lt hn)
theorem MapAt.not_blk {P : Program} {K : TypeId} {w : World} {b b' T : Nat} {cs : List Value} {m : Value → Option Value} (h : MapAt P K w b m) (h' : Blk w b' T cs) : b ≠ b' := by
  rintro rfl
  obtain ⟨es, clock, hb, _⟩ := h
  unfold Blk at h'
  rw [hb] at h'
  cases h'
theorem MapAt.ext {P : Program} {K : TypeId} {w : World} {b : Nat} {m m' : Value → Option Value} (h : MapAt P K w b m) (he : ∀ x, m' x = m x) : MapAt P K w b m' := by
  obtain ⟨es, clock, hb, h1, h2, h3, h4, h5⟩ := h
  exact ⟨es, clock, hb, h1, h2, h3, h4, fun x v => by rw [he]; exact h5 x v⟩
theorem MapAt.made (P : Program) (K : TypeId) (w : World) : MapAt P K (w.alloc (.map #[] 0)) w.heap.size (fun _ => none) :=
  ⟨#[], 0, by show (w.heap.push _)[w.heap.size]? = _; simp, by simp, by simp, by simp, by simp, fun x v => by simp⟩

theorem Says.none {P : Program} {K : TypeId} {es : Array MapEntry} {clock : Nat} {m : Value → Option Value} (h : Says P K es clock m) {x : Value} (hx : ∀ e ∈ es.toList, e.key ≠ x) : m x = none := by
  cases hm : m x with
  | none => rfl
  | some v =>
    obtain ⟨e, he, hk, _⟩ := (h.says x v).1 hm
    exact absurd hk (hx e he)

/-- m, told anew at x. -/
noncomputable def put (m : Value → Option Value) (x v : Value) : Value → Option Value := fun y => by
  classical exact if y = x then some v else m y
theorem put_same (m : Value → Option Value) (x v : Value) : put m x v x = some v := by unfold put; simp
theorem put_other (m : Value → Option Value) {x y : Value} (v : Value) (h : y ≠ x) : put m x v y = m y := by unfold put; simp [h]

theorem says_push {P : Program} {K : TypeId} {es : Array MapEntry} {clock : Nat} {m : Value → Option Value} (h : Says P K es clock m) {x v : Value} {l : Lit} (hx : keyOf P K x = some l) (hn : ∀ e ∈ es.toList, e.key ≠ x) :
    Says P K (es.push ⟨x, v, clock⟩) (clock + 1) (put m x v) := by
  refine ⟨?_, ?_, ?_, ?_, ?_⟩
  · intro e he
    simp only [Array.toList_push, List.mem_append, List.mem_singleton] at he
    rcases he with he | rfl
    · exact h.keys e he
    · exact ⟨l, hx⟩
  · rw [Array.toList_push, List.pairwise_append]
    exact ⟨h.apart, by simp, fun a ha b hb => by rw [List.mem_singleton.1 hb]; exact hn a ha⟩
  · intro e he
    simp only [Array.toList_push, List.mem_append, List.mem_singleton] at he
    rcases he with he | rfl
    · have := h.born e he; omega
    · simp
  · rw [Array.toList_push, List.map_append, List.nodup_append]
    refine ⟨h.borns, by simp, fun a ha c hc e1 => ?_⟩
    simp only [List.map_cons, List.map_nil, List.mem_singleton] at hc
    obtain ⟨y, hy, rfl⟩ := List.mem_map.1 ha
    have := h.born y hy
    omega
  · intro y u
    simp only [Array.toList_push, List.mem_append, List.mem_singleton]
    by_cases e : y = x
    · subst e
      rw [put_same]
      constructor
      · intro hu
        injection hu with hu
        exact ⟨_, .inr rfl, rfl, hu⟩
      · rintro ⟨e, he | rfl, hk, hv⟩
        · exact absurd hk (hn e he)
        · exact congrArg some hv
    · rw [put_other _ _ e, h.says y u]
      constructor
      · rintro ⟨e', he, hh⟩
        exact ⟨e', .inl he, hh⟩
      · rintro ⟨e', he | rfl, hh⟩
        · exact ⟨e', he, hh⟩
        · exact absurd hh.1.symm e

theorem says_modify {P : Program} {K : TypeId} {es : Array MapEntry} {clock : Nat} {m : Value → Option Value} (h : Says P K es clock m) {x v : Value} {l : Lit} (hx : keyOf P K x = some l) {j : Nat} {e0 : MapEntry} (hj : es.toList[j]? = some e0) (hk : e0.key = x) :
    Says P K (es.modify j fun e => { e with val := v }) clock (put m x v) := by
  have hset : (es.modify j fun e => { e with val := v }).toList = es.toList.set j { e0 with val := v } := by
    rw [Array.toList_modify, modify_eq_set _ _ _ _ hj]
  have hjl : j < es.toList.length := (List.getElem?_eq_some_iff.1 hj).1
  have hmem : ∀ e ∈ es.toList.set j { e0 with val := v }, e = { e0 with val := v } ∨ (e ∈ es.toList ∧ e.key ≠ x) := by
    intro e he
    obtain ⟨i, hi, rfl⟩ := List.getElem_of_mem he
    simp only [List.length_set] at hi
    by_cases hij : j = i
    · subst hij; left; simp
    · right
      rw [List.getElem_set_ne hij]
      refine ⟨List.getElem_mem _, fun hkx => ?_⟩
      have hp := List.pairwise_iff_getElem.1 h.apart
      have e0' := (List.getElem?_eq_some_iff.1 hj).2
      rcases Nat.lt_or_ge i j with hlt | hge
      · exact hp i j hi hjl hlt (by rw [hkx, e0', hk])
      · exact hp j i hjl hi (by omega) (by rw [hkx, e0', hk])
  have hkeys : (es.toList.set j { e0 with val := v }).map (·.key) = es.toList.map (·.key) := by
    apply List.ext_getElem?
    intro i
    simp only [List.getElem?_map, List.getElem?_set]
    split
    · rename_i hij
      subst hij
      simp [hj]
    · rfl
  have hborns : (es.toList.set j { e0 with val := v }).map (·.born) = es.toList.map (·.born) := by
    apply List.ext_getElem?
    intro i
    simp only [List.getElem?_map, List.getElem?_set]
    split
    · rename_i hij
      subst hij
      simp [hj]
    · rfl
  have h0 : e0 ∈ es.toList := List.mem_of_getElem? hj
  refine ⟨?_, ?_, ?_, ?_, ?_⟩
  · rw [hset]
    intro e he
    rcases hmem e he with rfl | ⟨he, _⟩
    · exact h.keys e0 h0
    · exact h.keys e he
  · rw [hset]
    have : (es.toList.map (·.key)).Pairwise (· ≠ ·) := List.pairwise_map.2 h.apart
    rw [← hkeys] at this
    exact List.pairwise_map.1 this
  · rw [hset]
    intro e he
    rcases hmem e he with rfl | ⟨he, _⟩
    · exact h.born e0 h0
    · exact h.born e he
  · rw [hset, hborns]; exact h.borns
  · intro y u
    rw [hset]
    by_cases e : y = x
    · subst e
      rw [put_same]
      constructor
      · intro hu
        injection hu with hu
        exact ⟨{ e0 with val := v }, List.mem_of_getElem? (i := j) (by rw [List.getElem?_set_self hjl]), hk, hu⟩
      · rintro ⟨e', he, hh, hv⟩
        rcases hmem e' he with rfl | ⟨_, hne⟩
        · exact congrArg some hv
        · exact absurd hh hne
    · rw [put_other _ _ e, h.says y u]
      constructor
      · rintro ⟨e', he, hh, hv⟩
        obtain ⟨i, hi, hie⟩ := List.getElem_of_mem he
        have hij : j ≠ i := by
          rintro rfl
          rw [(List.getElem?_eq_some_iff.1 hj).2] at hie
          subst hie
          exact e (hh.symm.trans hk)
        exact ⟨e', List.mem_of_getElem? (i := i) (by rw [List.getElem?_set_ne hij, List.getElem?_eq_getElem hi, hie]), hh, hv⟩
      · rintro ⟨e', he, hh, hv⟩
        rcases hmem e' he with rfl | ⟨he, _⟩
        · exact absurd (hh.symm.trans hk) e
        · exact ⟨e', he, hh, hv⟩

section
variable {P : Program} {T K E : TypeId} {w : World} {b : Nat} {m : Value → Option Value} {x z : Value} {l : Lit}

theorem run_lookup (hk : Keyed P K) (ht : P.underlying T = some (.map K E)) (hz : ∀ u : World, (zeroValue E).run P u = .ok z u) (hx : keyOf P K x = some l) (h : MapAt P K w b m) :
    (Instr.lookup T (.map (some b)) x false).run P w = .ok ((m x).getD z) w := by
  obtain ⟨es, clock, hb, hs⟩ := h
  rcases hk.find w hx es.toList hs.keys with ⟨h1, h2⟩ | ⟨j, e0, h1, h2, h3⟩
  · rw [hs.none h2]
    simp [Instr.lookup, run_underlying ht, MapKept.run_getObj_map hb, hk.check w _ hx, h1, hz, Result.andThen]
  · have : m x = some e0.val := (hs.says x _).2 ⟨e0, List.mem_of_getElem? h2, h3, rfl⟩
    rw [this]
    simp [Instr.lookup, run_underlying ht, MapKept.run_getObj_map hb, hk.check w _ hx, h1, Result.andThen]

theorem mapAt_set {es : Array MapEntry} {clock : Nat} (hb : b < w.heap.size) (h : Says P K es clock m) : MapAt P K (setBlock w b (.map es clock)) b m :=
  ⟨es, clock, by simp [setBlock, hb], h⟩

/-- 'm[k] = v', of the make that lays an entry first: the two steps. -/
theorem run_entry (hk : Keyed P K) (ht : P.underlying T = some (.map K E)) (hz : ∀ u : World, (zeroValue E).run P u = .ok z u) (hx : keyOf P K x = some l) (h : MapAt P K w b m) :
    ∃ (v0 : Value) (st : Int) (o1 : Obj), (Instr.mapEntry T (.map (some b)) x).run P w = .ok (.tuple #[v0, .int .i64 st]) (setBlock w b o1) ∧
      ∀ (w2 : World) (v : Value), w2.heap[b]? = some o1 → ∃ o2, (Instr.entryStore T (.map (some b)) (.int .i64 st) v).run P w2 = .ok () (setBlock w2 b o2) ∧ MapAt P K (setBlock w2 b o2) b (put m x v) := by
  obtain ⟨es, clock, hb, hs⟩ := h
  rcases hk.find w hx es.toList hs.keys with ⟨h1, h2⟩ | ⟨j, e0, h1, h2, h3⟩
  · refine ⟨z, (clock : Int), .map (es.push ⟨x, z, clock⟩) (clock + 1), ?_, fun w2 v hw2 => ⟨.map (es.push ⟨x, v, clock⟩) (clock + 1), ?_, ?_⟩⟩
    · simp [Instr.mapEntry, run_underlying ht, MapKept.run_getObj_map hb, hk.check w false hx, h1, hz, MapKept.run_setObj_map _ hb, Result.andThen, setBlock, goInt]
    · have hidx : (es.push ⟨x, z, clock⟩).findIdx? (fun e => ((e.born : Nat) : Int) == ((clock : Nat) : Int)) = some es.size := by
        rw [WideElems.findIdx_arr]
        exact WideElems.findIdx_born (l := (es.push ⟨x, z, clock⟩).toList) (j := es.size) (e0 := ⟨x, z, clock⟩) (by
          simp only [Array.toList_push, List.map_append, List.map_cons, List.map_nil]
          refine List.nodup_append.2 ⟨hs.borns, by simp, fun a ha c hc e1 => ?_⟩
          simp only [List.mem_singleton] at hc
          obtain ⟨y, hy, rfl⟩ := List.mem_map.1 ha
          have := hs.born y hy
          omega) (by simp)
      have hmod : (es.push ⟨x, z, clock⟩).modify es.size (fun e => { e with val := v }) = es.push ⟨x, v, clock⟩ := by
        apply Array.ext'
        rw [Array.toList_modify, Array.toList_push, Array.toList_push, ← Array.length_toList, WideElems.modify_last]
      simp [Instr.entryStore, MapKept.run_getObj_map hw2, asInt, asIntOf, hidx, hmod, MapKept.run_setObj_map _ hw2, Result.andThen, setBlock]
    · exact mapAt_set (Array.getElem?_eq_some_iff.1 hw2).1 (says_push hs hx h2)
  · have hj : es[j]? = some e0 := by simpa using h2
    have hsame : es.modify j (fun e => { e with key := x }) = es := by
      apply Array.ext'
      rw [Array.toList_modify, modify_eq_set _ _ _ _ h2]
      have : ({ e0 with key := x } : MapEntry) = e0 := by rw [← h3]
      rw [this]
      exact WideElems.set_self _ _ _ h2
    refine ⟨e0.val, (e0.born : Int), .map es clock, ?_, fun w2 v hw2 => ⟨.map (es.modify j (fun e => { e with val := v })) clock, ?_, ?_⟩⟩
    · simp [Instr.mapEntry, run_underlying ht, MapKept.run_getObj_map hb, hk.check w false hx, h1, hj, h3, hk.stays w hx, hsame, MapKept.run_setObj_map _ hb, Result.andThen, setBlock, goInt]
    · have hidx : es.findIdx? (fun e => ((e.born : Nat) : Int) == ((e0.born : Nat) : Int)) = some j := by
        rw [WideElems.findIdx_arr]
        exact WideElems.findIdx_born hs.borns h2
      simp [Instr.entryStore, MapKept.run_getObj_map hw2, asInt, asIntOf, hidx, MapKept.run_setObj_map _ hw2, Result.andThen, setBlock]
    · exact mapAt_set (Array.getElem?_eq_some_iff.1 hw2).1 (says_modify hs hx h2 h3)

/-- 'm[k] = v', of the make in one step. -/
theorem run_update (hk : Keyed P K) (ht : P.underlying T = some (.map K E)) (hx : keyOf P K x = some l) (h : MapAt P K w b m) (v : Value) :
    ∃ o2, (Instr.mapUpdate T (.map (some b)) x v).run P w = .ok () (setBlock w b o2) ∧ MapAt P K (setBlock w b o2) b (put m x v) := by
  obtain ⟨es, clock, hb, hs⟩ := h
  have hlt := (Array.getElem?_eq_some_iff.1 hb).1
  rcases hk.find w hx es.toList hs.keys with ⟨h1, h2⟩ | ⟨j, e0, h1, h2, h3⟩
  · refine ⟨.map (es.push ⟨x, v, clock⟩) (clock + 1), ?_, mapAt_set hlt (says_push hs hx h2)⟩
    simp [Instr.mapUpdate, run_underlying ht, MapKept.run_getObj_map hb, hk.check w false hx, h1, MapKept.run_setObj_map _ hb, Result.andThen, setBlock]
  · have hj : es[j]? = some e0 := by simpa using h2
    have hmod : es.modify j (fun e => { e with key := x, val := v }) = es.modify j (fun e => { e with val := v }) := by
      apply Array.ext'
      rw [Array.toList_modify, Array.toList_modify, modify_eq_set _ _ _ _ h2, modify_eq_set _ _ _ _ h2, ← h3]
    refine ⟨.map (es.modify j (fun e => { e with val := v })) clock, ?_, mapAt_set hlt (says_modify hs hx h2 h3)⟩
    simp [Instr.mapUpdate, run_underlying ht, MapKept.run_getObj_map hb, hk.check w false hx, h1, hj, h3, hk.stays w hx, hmod, MapKept.run_setObj_map _ hb, Result.andThen, setBlock]
end

theorem upd_setBlock {S : Nat → Prop} {a w : World} (h : Upd S a w) {b : Nat} (hb : b < a.heap.size → S b) (o : Obj) : Upd S a (setBlock w b o) :=
  h.trans' (S' := fun k => k = b) ⟨rfl, rfl, rfl, by simp [setBlock], fun k hk hn => by simp [setBlock, Ne.symm hn]⟩ (fun _ _ h => h) (fun k hk e => by subst e; exact hb hk)
theorem blk_setBlock {w : World} {b b' T : Nat} {cs : List Value} (h : Blk w b T cs) (hn : b ≠ b') (o : Obj) : Blk (setBlock w b' o) b T cs := by
  unfold Blk at h ⊢
  simpa [setBlock, Ne.symm hn] using h
theorem mapAt_setBlock {P : Program} {K : TypeId} {w : World} {b b' : Nat} {m : Value → Option Value} (h : MapAt P K w b m) (hn : b ≠ b') (o : Obj) : MapAt P K (setBlock w b' o) b m :=
  h.same (by simp [setBlock, Ne.symm hn])
end Go.Proofs.Ytjmnbbflahacoaa.Mem
/- A region that draws its order, walked in one order: as the kit's 'held' walk, but that behind some operations (those that wait for all that S is wanted for) S need not hold. No condition. -/
namespace Go.Proofs.Ytjmnbbflahacoaa.Mem
open Go.RowKit
set_option linter.unusedVariables false
set_option linter.unusedSimpArgs false

section
variable {P : Program} {ops : Array Oper} {Q : Exit → Act → World → Prop} {md : Region.Mode} {S : World → Prop} {X : List Nat}

/-- Whatever order is picked from here on, and S holds behind every operation that isn't one of X. -/
def wpAnyX (P : Program) (md : Region.Mode) (ops : Array Oper) (Q : Exit → Act → World → Prop) (S : World → Prop) (X : List Nat) : Nat → Array Bool → Act → World → Prop
  | 0, listed, a, w => Region.ready md ops listed = [] ∧ Q .normal a w
  | fuel + 1, listed, a, w =>
    (Region.ready md ops listed = [] → Q .normal a w) ∧
    ∀ i ∈ Region.ready md ops listed, wpOp P ops Q i (fun a' w' => (X.contains i = false → S w') ∧ wpAnyX P md ops Q S X fuel (listed.setIfInBounds i true) a' w') a w

theorem wpAny_of_X : ∀ (fuel : Nat) (listed : Array Bool) (a : Act) (w : World), wpAnyX P md ops Q S X fuel listed a w → wpAny P md ops Q fuel listed a w
  | 0, _, _, _, h => h
  | fuel + 1, _, _, _, h => ⟨h.1, fun i hi => wpOp_mono (fun a' w' h' => wpAny_of_X fuel _ a' w' h'.2) (h.2 i hi)⟩

/-- Does operation j wait for i, by an edge of its own? -/
def waitsB (md : Region.Mode) (ops : Array Oper) (j i : Nat) : Bool := match ops[j]? with | some oj => oj.after.any (fun e => Region.binds md e && e.on == i) | none => false

/-- Each of X waits for i, by an edge or by two. -/
def waitsAll (md : Region.Mode) (ops : Array Oper) (listed : Array Bool) (X : List Nat) (i : Nat) : Bool :=
  X.all fun j => waitsB md ops j i || (List.range ops.size).any fun k => waitsB md ops k i && (waitsB md ops j k && !listed.getD k true)

theorem waitsB_ready {listed : Array Bool} {j i : Nat} (h : waitsB md ops j i = true) (hj : j ∈ Region.ready md ops listed) : listed.getD i false = true := by
  obtain ⟨_, oj, hoj, hall⟩ := mem_ready.1 hj
  unfold waitsB at h
  rw [hoj] at h
  obtain ⟨e, he, hb⟩ := Array.any_eq_true'.1 h
  simp only [Bool.and_eq_true, beq_iff_eq] at hb
  rw [← hb.2]
  exact hall e he hb.1

theorem getD_flip {listed : Array Bool} {i : Nat} (h0 : listed.getD i true = false) (h1 : listed.getD i false = true) : False := by
  rcases Nat.lt_or_ge i listed.size with h' | h'
  · simp [h'] at h0 h1; rw [h0] at h1; cases h1
  · simp [Array.getElem?_eq_none h'] at h1

theorem wpAnyX_first {i : Nat} {oi : Oper} {v : Value} (hi : ops[i]? = some oi) (hsel : ∀ (j : Nat) (o : Oper) cs b, ops[j]? = some o → o.op ≠ .select cs b)
    (hQ : ∀ c a w, Q (.panic c) (a.put oi.dst v) w → Q (.panic c) a w) :
    ∀ (fuel : Nat) (listed : Array Bool) (a : Act) (w : World), waitsAll md ops listed X i = true →
      (∀ j oj, ops[j]? = some oj → j ≠ i → listed.getD j true = false → (∀ e ∈ oj.after, Region.binds md e = true → e.on ≠ i) → oi.apart ops oj = true) →
      i ∈ Region.ready md ops listed → YieldsIf P ops S oi v a → S w →
      wpAnyX P md ops Q S X fuel (listed.setIfInBounds i true) (a.put oi.dst v) w → wpAnyX P md ops Q S X (fuel + 1) listed a w := by
  intro fuel
  induction fuel with
  | zero =>
    intro listed a w _ _ hr hy hS H
    refine ⟨fun h => (by rw [h] at hr; cases hr), fun j hj => ?_⟩
    by_cases hji : j = i
    · subst hji; exact hy.wpOp hi hS ⟨fun _ => hS, H⟩
    · have := ready_mono hj hji
      rw [H.1] at this
      cases this
  | succ fuel ih =>
    intro listed a w hX hfree hr hy hS H
    refine ⟨fun h => (by rw [h] at hr; cases hr), fun j hj => ?_⟩
    by_cases hji : j = i
    · subst hji; exact hy.wpOp hi hS ⟨fun _ => hS, H⟩
    · have h1 := H.2 j (ready_mono hj hji)
      have h0 := (mem_ready.1 hr).1
      obtain ⟨hjun, oj, hoj, hall⟩ := mem_ready.1 hj
      have hnw : waitsB md ops j i = false := by
        cases hw : waitsB md ops j i with
        | false => rfl
        | true => exact (getD_flip h0 (waitsB_ready hw hj)).elim
      have hnot : ∀ e ∈ oj.after, Region.binds md e = true → e.on ≠ i := fun e he hb heq => by
        have h1 := hall e he hb
        rw [heq] at h1
        exact getD_flip h0 h1
      have hjX : X.contains j = false := by
        cases hc : X.contains j with
        | false => rfl
        | true =>
          have hm : j ∈ X := by simpa using hc
          have := List.all_eq_true.1 hX j hm
          rw [hnw, Bool.false_or] at this
          obtain ⟨k, _, hk⟩ := List.any_eq_true.1 this
          simp only [Bool.and_eq_true, Bool.not_eq_true'] at hk
          exact (getD_flip hk.2.2 (waitsB_ready hk.2.1 hj)).elim
      have hX' : waitsAll md ops (listed.setIfInBounds j true) X i = true := by
        refine List.all_eq_true.2 fun j' hj' => ?_
        have := List.all_eq_true.1 hX j' hj'
        rw [Bool.or_eq_true] at this ⊢
        rcases this with h | h
        · exact .inl h
        · obtain ⟨k, hkm, hk⟩ := List.any_eq_true.1 h
          refine .inr (List.any_eq_true.2 ⟨k, hkm, ?_⟩)
          simp only [Bool.and_eq_true, Bool.not_eq_true'] at hk ⊢
          have hjk : j ≠ k := by
            rintro rfl
            rw [hnw] at hk
            exact absurd hk.1 (by simp)
          exact ⟨hk.1, hk.2.1, by rw [getD_set_ne true hjk]; exact hk.2.2⟩
      have h2 := wpOp_putIf hoj (hfree j oj hoj hji hjun hnot) (fun cs b => hsel i oi cs b hi) (fun cs b => hsel j oj cs b hoj) hQ hy h1
      have hfree' : ∀ k ok, ops[k]? = some ok → k ≠ i → (listed.setIfInBounds j true).getD k true = false →
          (∀ e ∈ ok.after, Region.binds md e = true → e.on ≠ i) → oi.apart ops ok = true := fun k ok hk hki hun hno => by
        refine hfree k ok hk hki ?_ hno
        by_cases hjk : j = k
        · subst hjk; exact hjun
        · rw [getD_set_ne true hjk] at hun; exact hun
      refine wpOp_mono (fun a' w' h3 => ⟨fun _ => h3.2.1 hjX, ih (listed.setIfInBounds j true) a' w' hX' hfree' (ready_mono hr (Ne.symm hji)) h3.1 (h3.2.1 hjX) ?_⟩) h2
      rw [Array.setIfInBounds_comm _ _ hji]
      exact h3.2.2

/-- Take number i first. -/
theorem wpAnyX_take {i : Nat} {oi : Oper} {v : Value} {fuel : Nat} {listed : Array Bool} {a : Act} {w : World} (hi : ops[i]? = some oi)
    (hs : Region.noSelect ops = true) (hX : waitsAll md ops listed X i = true) (hf : Region.free md ops listed i = true) (hr : (Region.ready md ops listed).contains i = true)
    (hQ : ∀ c a w, Q (.panic c) (a.put oi.dst v) w → Q (.panic c) a w) (hy : YieldsIf P ops S oi v a) (hS : S w)
    (h : wpAnyX P md ops Q S X fuel (listed.setIfInBounds i true) (a.put oi.dst v) w) : wpAnyX P md ops Q S X (fuel + 1) listed a w :=
  wpAnyX_first hi (Region.noSelect_spec hs) hQ fuel listed a w hX (Region.free_spec hi hf) (by simpa using hr) hy hS h

/-- Just one may come up. -/
theorem wpAnyX_one {i : Nat} {o : Oper} {fuel : Nat} {listed : Array Bool} {a : Act} {w : World} (hr : Region.ready md ops listed = [i]) (hi : ops[i]? = some o)
    (h : ∀ K : Act → World → Prop, Hid (∀ a w, (X.contains i = false → S w) → wpAnyX P md ops Q S X fuel (listed.setIfInBounds i true) a w → K a w) →
      if Region.wanted o (yielded ops a.tmps) = true then Oper.wp P o a w K Q else K (a.put o.dst undef) w) : wpAnyX P md ops Q S X (fuel + 1) listed a w := by
  refine ⟨fun h0 => (by rw [hr] at h0; cases h0), fun j hj => ?_⟩
  rw [hr] at hj
  rw [List.mem_singleton.1 hj]
  exact wpOp_step hi (fun K' hK => h K' (fun a w hS hW => hK a w ⟨hS, hW⟩))

theorem wpAnyX_done {listed : Array Bool} {a : Act} {w : World} (hr : Region.ready md ops listed = []) (h : Q .normal a w) :
    ∀ fuel, wpAnyX P md ops Q S X fuel listed a w
  | 0 => ⟨hr, h⟩
  | _ + 1 => ⟨fun _ => h, by rw [hr]; simp⟩

theorem wp_region_X {id : Nat} {a : Act} {w : World} (S : World → Prop) (X : List Nat) (hm : P.follows .mixedOrders = true)
    (h : wpAnyX P .any ops Q S X ops.size (Array.replicate ops.size false) a w.drew) : (Code.region id ops true).wp P Q a w :=
  wp_region_any hm (wpAny_of_X _ _ _ _ h)
end
end Go.Proofs.Ytjmnbbflahacoaa.Mem
/- A range over a function whose body always goes on: the statement, and a round. No condition. -/
namespace Go.Proofs.Ytjmnbbflahacoaa.Mem
open Go.RowKit
set_option linter.unusedVariables false
set_option linter.unusedSimpArgs false

/-- A loop's record, ready; busy; used up. -/
def Loop.atReady (r : Loop) : Loop := { r with state := .ready, pending := none }
def Loop.atBusy (r : Loop) : Loop := { r with state := .busy, pending := none }
def Loop.atEnd (r : Loop) : Loop := { r with state := .exhausted, pending := none }

/-- The loop's two blocks stand: its record is ready, no call is deferred. -/
structure LoopReady (r : Loop) (D L : Nat) (W : World) : Prop where
  made : W.heap[L]? = some (.loop (Loop.atReady r))
  calls : W.heap[D]? = some (.deferred (some []))

theorem yieldAt_of {F : Fence} {n : Nat} {P : Program} {L : Nat} {r : Loop} {args : Array Value} {W : World} {R : World → Prop} (hF : F.fn r.fn) (hR : W.heap[L]? = some (.loop (Loop.atReady r))) (hps : args.size = r.params.size)
    (h : r.assign.wpIn (F.inRound L) n P (Exit.then (fun a' Wa => Wa.heap[L]? = some (.loop (Loop.atReady r)) ∧ r.body.wpIn (F.inRound L) n P (fun e _ W3 => e = .normal ∧ W3.heap[L]? = some (.loop (Loop.atBusy r)) ∧ R (W3.putObj L (.loop (Loop.atReady r)))) a' (Wa.putObj L (.loop (Loop.atBusy r)))) (fun _ _ _ => False))
      { tmps := (r.params.zip args).foldl (fun t (p, v) => t.setIfInBounds p v) r.tmps, defers := [] } W) :
    YieldAt F n P L args W (fun e W' => e = .returned (.bool true) ∧ R W') := by
  refine ⟨r.fn, _, r.assign, r.body, run_yield (r := Loop.atReady r) hR hps, roundIn_of_wpIn hF (wpIn_mono h ?_)⟩
  intro e a Wa hp
  cases e with
  | normal =>
    obtain ⟨hr, hb⟩ := hp
    refine ⟨_, run_beginRound (r := Loop.atReady r) hr rfl, wpIn_mono hb ?_⟩
    rintro e a3 W3 ⟨rfl, hl, hR3⟩
    exact ⟨_, _, run_endRound (r := Loop.atBusy r) none hl, rfl, hR3⟩
  | _ => exact hp.elim

theorem wpIn_rangeFunc_all {F : Fence} {n : Nat} {P : Program} {g : Operand} {ps : Array Tmp} {assign body : Code} {Q : Exit → Act → World → Prop} {a : Act} {w : World} (hro : F.round = none) (h1 : 1 ≤ n) {gf : Nat} {lb : Array Value}
    (hg : a.eval g = .func (.func gf) #[] lb) (hFg : F.fn gf) (eg : ∀ args w, (callFunc gf args).run P w = .ok (.enter gf args) w) {Z : World → Prop}
    (h : ∀ (r : Loop) (W : World), F.fn r.fn → r.tmps = a.tmps → r.params = ps → r.assign = assign → r.body = body → LoopReady r w.heap.size (w.heap.size + 1) W → Below w.heap.size w W → W.heap.size = w.heap.size + 2 →
      CallsIn F (n - 1) P gf (#[.func (.yield (w.heap.size + 1)) #[] #[]] ++ lb) W (fun e W2 => (∃ v, e = .returned v) ∧ LoopReady r w.heap.size (w.heap.size + 1) W2 ∧ Z W2))
    (hdone : ∀ (r : Loop) (W : World), LoopReady r w.heap.size (w.heap.size + 1) W → Z W → Q .normal { a with defers := { target := .collected w.heap.size, args := #[] } :: a.defers } (W.putObj (w.heap.size + 1) (.loop (Loop.atEnd r)))) :
    (Code.rangeFunc g ps assign body).wpIn F n P Q a w := by
  refine wpIn_rangeFunc ?_
  intro fn hfn
  rw [hro]
  obtain ⟨r, hr⟩ : ∃ r : Loop, r = { state := .ready, pending := none, fn, tmps := a.tmps, params := ps, assign, body, defers := w.heap.size } := ⟨_, rfl⟩
  have hrr : Loop.atReady r = { state := .ready, pending := none, fn, tmps := a.tmps, params := ps, assign, body, defers := w.heap.size } := by rw [hr]; rfl
  obtain ⟨W1, hW1⟩ : ∃ W1, (w.alloc (.deferred (some []))).alloc (.loop (Loop.atReady r)) = W1 := ⟨_, rfl⟩
  have hL1 : W1.heap[w.heap.size + 1]? = some (.loop (Loop.atReady r)) := by
    rw [← hW1]; have := World.alloc_heap_new (w.alloc (.deferred (some []))) (.loop (Loop.atReady r)); rwa [World.size_alloc] at this
  have hK1 : W1.heap[w.heap.size]? = some (.deferred (some [])) := by
    rw [← hW1]; exact (Below.heap_alloc _ _ _ (by simp)).trans (World.alloc_heap_new w _)
  have hb1 : Below w.heap.size w W1 := by
    rw [← hW1]; exact ((Below.refl _ w).alloc (Nat.le_refl _) _).alloc (by simp) _
  refine ⟨w.heap.size + 1, [{ target := .collected w.heap.size, args := #[] }], W1, { target := .fn (.func gf) lb, args := #[.func (.yield (w.heap.size + 1)) #[] #[]] }, W1, gf,
    #[.func (.yield (w.heap.size + 1)) #[] #[]] ++ lb, W1, ?_, ?_, ?_, ?_, fun _ => h1, ?_⟩
  · rw [← hW1, hrr]; exact run_enterLoop_outer _ _ _ _ _
  · simp only [resolve, hg]
    simp [go_sem]
  · intro f' hf'; simp [Target.leads] at hf'; subst hf'; exact hFg
  · simp [invoke, go_sem, eg]
  · refine (h r W1 (by rw [hr]; exact hfn) (by rw [hr]) (by rw [hr]) (by rw [hr]) (by rw [hr]) ⟨hL1, hK1⟩ hb1 (by rw [← hW1]; simp)).mono ?_
    rintro e W2 ⟨⟨v, rfl⟩, hR, hZ⟩
    exact ⟨none, _, run_endLoop (r := Loop.atReady r) hR.made (by intro hh; cases hh), hdone r W2 hR hZ⟩
end Go.Proofs.Ytjmnbbflahacoaa.Mem
