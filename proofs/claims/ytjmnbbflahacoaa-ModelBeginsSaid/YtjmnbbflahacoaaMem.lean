/- Small facts on worlds: what a piece of the program may have turned (Upd), and blocks whose cells are known. No condition. -/
import Derived.WalkKit
import Derived.KernelRfl
import Derived.Lib.Hide
import Derived.Deep.LoopGhost
import Derived.Deep.QuietTactic
import Derived.BigQuiet
import Derived.Deep.DeepMust
namespace Go.Proofs.Ytjmnbbflahacoaa.Mem
open Go.RowKit
set_option linter.unusedVariables false
set_option linter.unusedSimpArgs false

/-- A fact that the walk's simp doesn't look into. -/
structure Veil (p : Prop) : Prop where mk :: (out : p)

/-- From w to w' no block of w's but those of S has turned; no block has gone; the streams are as they were. -/
structure Upd (S : Nat → Prop) (w w' : World) : Prop where
  os : w'.os = w.os
  tape : w'.tape = w.tape
  output : w'.output = w.output
  size : w.heap.size ≤ w'.heap.size
  block : ∀ k, k < w.heap.size → ¬ S k → w'.heap[k]? = w.heap[k]?

theorem Upd.refl (S : Nat → Prop) (w : World) : Upd S w w := ⟨rfl, rfl, rfl, Nat.le_refl _, fun _ _ _ => rfl⟩
theorem Upd.trans' {S S' S'' : Nat → Prop} {a b c : World} (h : Upd S a b) (k : Upd S' b c) (h1 : ∀ k, k < a.heap.size → S k → S'' k) (h2 : ∀ k, k < a.heap.size → S' k → S'' k) : Upd S'' a c :=
  ⟨k.os.trans h.os, k.tape.trans h.tape, k.output.trans h.output, Nat.le_trans h.size k.size, fun i hi hn =>
    (k.block i (Nat.lt_of_lt_of_le hi h.size) (fun hs => hn (h2 i hi hs))).trans (h.block i hi (fun hs => hn (h1 i hi hs)))⟩
theorem Upd.trans {S : Nat → Prop} {a b c : World} (h : Upd S a b) (k : Upd S b c) : Upd S a c := h.trans' k (fun _ _ h => h) (fun _ _ h => h)
theorem Upd.mono {S S' : Nat → Prop} {a b : World} (h : Upd S a b) (hs : ∀ k, k < a.heap.size → S k → S' k) : Upd S' a b := ⟨h.os, h.tape, h.output, h.size, fun k hk hn => h.block k hk (fun h' => hn (hs k hk h'))⟩
theorem Upd.alloc {S : Nat → Prop} {a w : World} (h : Upd S a w) (o : Obj) : Upd S a (w.alloc o) :=
  h.trans' (S' := fun _ => False) ⟨rfl, rfl, rfl, by simp, fun k hk _ => Below.heap_alloc _ _ _ hk⟩ (fun _ _ h => h) (fun _ _ h => h.elim)
theorem Upd.setCell {S : Nat → Prop} {a w : World} (h : Upd S a w) {p : Addr} (hp : p.block < a.heap.size → S p.block) (u : Value) : Upd S a (w.setCell p u) :=
  h.trans' (S' := fun k => k = p.block) ⟨rfl, rfl, rfl, by simp [World.setCell], fun k hk hn => Below.heap_setCell _ _ _ _ hn⟩ (fun _ _ h => h) (fun k hk e => by subst e; exact hp hk)
theorem Upd.drew {S : Nat → Prop} {a w : World} (h : Upd S a w) : Upd S a w.drew := ⟨h.os, h.tape, h.output, h.size, h.block⟩
theorem Upd.drewN {S : Nat → Prop} {a w : World} (h : Upd S a w) (n : Nat) : Upd S a (w.drewN n) := ⟨h.os, h.tape, h.output, h.size, h.block⟩
theorem Upd.grown {S : Nat → Prop} {a w w' : World} {row : Option Nat} (h : Upd S a w) (hg : w.grownBy w' row) (hr : ∀ k, row = some k → k < a.heap.size → S k) : Upd S a w' :=
  h.trans' (S' := fun k => row = some k) ⟨hg.os, hg.tape, hg.output, hg.size, fun k hk hn => hg.block k hk (fun e => hn e.symm)⟩ (fun _ _ h => h) (fun k hk e => hr k e hk)
theorem Upd.below {S : Nat → Prop} {a w : World} {B : Nat} (h : Upd S a w) (hB : B ≤ a.heap.size) (hs : ∀ k, k < B → ¬ S k) : Below B a w := ⟨h.os, h.tape, h.output, h.size, fun k hk => h.block k (by omega) (hs k hk)⟩
theorem Upd.ofBelow {a w : World} (h : Below a.heap.size a w) (S : Nat → Prop) : Upd S a w := ⟨h.os, h.tape, h.output, h.size, fun k hk _ => h.block k hk⟩
theorem Upd.same {S : Nat → Prop} {a w : World} (h : Upd S a w) {b : Nat} {o : Obj} (hb : a.heap[b]? = some o) (hn : ¬ S b) : w.heap[b]? = some o :=
  (h.block b (Array.getElem?_eq_some_iff.1 hb).1 hn).trans hb

/-- A cell that is there is there behind a new block. -/
theorem alloc_cell {w : World} {a : Addr} {v : Value} (h : w.cell? a = some v) : ∀ o : Obj, (w.alloc o).cell? a = some v := fun o =>
  (World.cell?_of_block (w := w) (Below.heap_alloc w o a.block (World.block_lt_of_cell? w a h))).trans h

theorem alloc_frozen {w : World} {a : Addr} {x : Bool} (hlt : a.block < w.heap.size) (h : w.frozen? a = x) : ∀ o : Obj, (w.alloc o).frozen? a = x := fun o =>
  (World.frozen?_of_block (w := w) (Below.heap_alloc w o a.block hlt)).trans h

/-- Block b holds these cells, of the type T; none is frozen. -/
def Blk (w : World) (b : Nat) (T : TypeId) (cs : List Value) : Prop := w.heap[b]? = some (.cells cs.toArray T (0, 0))

theorem Blk.lt {w : World} {b T : Nat} {cs : List Value} (h : Blk w b T cs) : b < w.heap.size := (Array.getElem?_eq_some_iff.1 h).1
theorem Blk.cell {w : World} {b T : Nat} {cs : List Value} (h : Blk w b T cs) (o : Nat) (v : Value) (hv : cs[o]? = some v) : w.cell? ⟨b, o, none⟩ = some v := by
  unfold Blk at h
  simp [World.cell?, h, hv]
theorem Blk.free {w : World} {b T : Nat} {cs : List Value} (h : Blk w b T cs) (o : Nat) : w.frozen? ⟨b, o, none⟩ = false := by
  unfold Blk at h
  simp [World.frozen?, h]
theorem Blk.upd {S : Nat → Prop} {w w' : World} {b T : Nat} {cs : List Value} (h : Blk w b T cs) (hu : Upd S w w') (hn : ¬ S b) : Blk w' b T cs := hu.same h hn
theorem Blk.below {B : Nat} {w w' : World} {b T : Nat} {cs : List Value} (h : Blk w b T cs) (hu : Below B w w') (hn : b < B) : Blk w' b T cs := (hu.block b hn).trans h
theorem Blk.new (w : World) (cs : Array Value) (T : Nat) : Blk (w.alloc (.cells cs T)) w.heap.size T cs.toList := by
  unfold Blk
  show (w.heap.push _)[w.heap.size]? = _
  simp
theorem Blk.alloc {w : World} {b T : Nat} {cs : List Value} (h : Blk w b T cs) (o : Obj) : Blk (w.alloc o) b T cs := (Below.heap_alloc w o b h.lt).trans h
theorem Blk.drew {w : World} {b T : Nat} {cs : List Value} (h : Blk w b T cs) : Blk w.drew b T cs := h
theorem Blk.drewN {w : World} {b T : Nat} {cs : List Value} (h : Blk w b T cs) (n : Nat) : Blk (w.drewN n) b T cs := h
theorem Blk.set {w : World} {b T : Nat} {cs : List Value} (h : Blk w b T cs) (o : Nat) (v : Value) : Blk (w.setCell ⟨b, o, none⟩ v) b T (cs.set o v) := by
  unfold Blk at h ⊢
  have hlt := (Array.getElem?_eq_some_iff.1 h).1
  have he := (Array.getElem?_eq_some_iff.1 h).2
  simp [World.setCell, Array.getElem?_modify, h]
theorem Blk.far {w : World} {b T : Nat} {cs : List Value} (h : Blk w b T cs) {p : Addr} (hp : b ≠ p.block) (v : Value) : Blk (w.setCell p v) b T cs := (Below.heap_setCell w p v b hp).trans h
theorem Blk.type {w : World} {b T T' : Nat} {cs cs' : List Value} (h : Blk w b T cs) (h' : Blk w b T' cs') : T = T' := by
  unfold Blk at h h'
  rw [h] at h'
  injection h' with h'
  injection h' with _ h'
theorem Blk.ne {w : World} {b b' T T' : Nat} {cs cs' : List Value} (h : Blk w b T cs) (h' : Blk w b' T' cs') (hT : T ≠ T') : b ≠ b' := by
  rintro rfl
  exact hT (h.type h')
end Go.Proofs.Ytjmnbbflahacoaa.Mem
