/- hist, eleventh part: all tries that are asked for. No condition. -/
import Derived.Test.YtjmnbbflahacoaaHistJ
import Derived.Outline
import Derived.Maps.OwnIn
namespace Go.Proofs.Ytjmnbbflahacoaa.Hist
open Go.RowKit Go.ChangeMaps Go.Maps Go.Proofs.Ytjmnbbflahacoaa.Mem Go.Proofs.Ytjmnbbflahacoaa.PHistTells Go.Proofs.YtjmnbbflahacoaaW.PrintWords
set_option linter.unusedVariables false
set_option linter.unusedSimpArgs false
attribute [local go_sem] Oper.semAt_some

theorem those_any (w : World) (A : Option Addr) (n c askf : Nat) (askl : Array Value) : Calls Try.prog 75 #[.slice A n c, .func (.func askf) #[] askl] w
      fun ed w' => ed = .returned (.func (.func 94) #[] #[.pointer (some ⟨w.heap.size, 0, none⟩), .pointer (some ⟨w.heap.size + 1, 0, none⟩)]) ∧ w' = (w.alloc (.cells #[.slice A n c] 22)).alloc (.cells #[.func (.func askf) #[] askl] 86) := by
  go_enter Try.func75, Try.ntmps75
  go_wp2
  go_ret
  exact ⟨rfl, rfl⟩

/-- append(v, x) inside a fence, behind 'gi_at_builtin'. -/
theorem R_appendIn {F : Fence} {nF : Nat} {P : Program} {ops : Array Oper} {rest : List Oper} {o : Oper} {a : Act} {Q : Exit → Act → World → Prop} {α : Type} (d : Kd α) {W : World} (base : Nat) (hgd : o.guard = none) (s x : Operand) (t e : TypeId) (z : Value) (bytes : Nat)
    (ho : o.op = .call { callee := .builtin .append, args := #[s, x], argTypes := #[t, t] })
    (ht : P.underlying t = some (.slice e)) (hinfo : (P.info? e).map (fun i => (i.zero, i.size, i.bytes)) = some (some z, d.sz, bytes)) (hz : z.cells.size = d.sz) (hs0 : 0 < d.sz) (hb0 : 0 < bytes)
    (v : Value) (xs : List α) (p : α) (cs : List Value) (ok okp : Nat → Prop) (hs : a.eval s = v) (hx : a.eval x = .slice (some ⟨W.heap.size, 0, none⟩) 1 1) (hp : d.M W base okp p cs) (hokp : ∀ k, okp k → ok k ∧ some k ≠ v.ownBlock) (hfresh : ∀ k, W.heap.size ≤ k → ok k)
    (HO : d.R e W base ok v xs) (hbase : base ≤ W.heap.size) (hl : (xs.length + 1) * bytes ≤ 140737488355328)
    (h : ∀ v1 w1, d.R e w1 base ok v1 (xs ++ [p]) → W.grownBy w1 v.ownBlock → (v1.ownBlock = v.ownBlock ∨ ∃ b, v1.ownBlock = some b ∧ W.heap.size ≤ b) → wpListIn F nF P ops Q rest (a.put o.dst v1) w1) :
    wpListIn F nF P ops Q (o :: rest) a (W.alloc (.cells cs.toArray e)) := by
  obtain ⟨h0, inner, hown, hr⟩ := HO
  obtain ⟨i0, hi, hzz⟩ := Option.map_eq_some_iff.1 hinfo
  simp only [Prod.mk.injEq] at hzz
  obtain ⟨hz0, hz1, hz2⟩ := hzz
  have hlen : xs.length + 1 ≤ 140737488355328 := Nat.le_trans (Nat.le_mul_of_pos_right _ hb0) hl
  have hys := d.K_len (d.K_of_M hp)
  refine wpListIn_append_own_at (W.alloc (.cells cs.toArray e)) hgd s x t ho base e i0 z d.sz bytes ht hi hz0 hz1 hz2 hz hs0 v xs.length inner hs (hown.alloc _) ⟨W.heap.size, 0, none⟩ 1 1 cs hx (by rw [hys]; simp)
    (by simpa using World.news_of_block (cs := cs.toArray) (t := e) (fr := (0, 0)) (World.alloc_heap_new W (.cells cs.toArray e))) (d.K_one (d.K_of_M hp)) (by simp only [maxLen]; omega) hl (by simp; omega) ?_
  intro v1 w1 hown1 hg _ hat
  have hg1 := World.grownBy.trans (World.grownBy_alloc W _ _) hg
  have hat1 : v1.ownBlock = v.ownBlock ∨ ∃ b, v1.ownBlock = some b ∧ W.heap.size ≤ b := by
    rcases hat with hat | hat
    · exact .inl hat
    · exact .inr ⟨_, hat, by simp⟩
  exact h v1 w1 (Kd.R_appended h0 hr hp hokp hfresh hown1 hg1 hat1) hg1 hat1

/-- What a list of the iterator's is while all gathers it. -/
structure GatherOut (w0 : World) (B : Nat) (pre : List (Tr × Value)) (W : World) : Prop where
  row : ∃ v, Blk W B 25 [v] ∧ kTr.R 29 W w0.heap.size (fun _ => True) v (pre.map (·.1))
  below : Below w0.heap.size w0 W
  low : w0.heap.size ≤ B
structure Gather (w0 : World) (B : Nat) (r : Loop) (D L : Nat) (pre : List (Tr × Value)) (W : World) : Prop where
  out : GatherOut w0 B pre W
  loop : LoopReady r D L W
theorem Gather.step {w0 W W' : World} {B : Nat} {r : Loop} {D L : Nat} {pre : List (Tr × Value)} (h : Gather w0 B r D L pre W) (hb : Below W.heap.size W W') : Gather w0 B r D L pre W' := by
  obtain ⟨v, hB, hR⟩ := h.out.row
  exact ⟨⟨⟨v, hB.below hb hB.lt, Kd.R_below hR hb⟩, h.out.below.trans (hb.mono h.out.below.size), h.out.low⟩, ⟨(hb.block L (Array.getElem?_eq_some_iff.1 h.loop.made).1).trans h.loop.made, (hb.block D (Array.getElem?_eq_some_iff.1 h.loop.calls).1).trans h.loop.calls⟩⟩

/-- What stands where all's loop begins. -/
structure AllStart (w w3 : World) (A : Option Addr) (n c askf : Nat) (askl : Array Value) : Prop where
  out : Blk w3 w.heap.size 25 [.slice none 0 0]
  l : Blk w3 (w.heap.size + 1) 22 [.slice A n c]
  ask : Blk w3 (w.heap.size + 1 + 1) 86 [.func (.func askf) #[] askl]
  below : Below w.heap.size w w3
  size : w3.heap.size = w.heap.size + 3
theorem all_start (w : World) (A : Option Addr) (n c askf : Nat) (askl : Array Value) : AllStart w (((w.alloc (.cells #[.slice none 0 0] 25)).alloc (.cells #[.slice A n c] 22)).alloc (.cells #[.func (.func askf) #[] askl] 86)) A n c askf askl := by
  have h1 : (w.alloc (.cells #[.slice none 0 0] 25)).heap.size = w.heap.size + 1 := by simp
  have h2 : ((w.alloc (.cells #[.slice none 0 0] 25)).alloc (.cells #[.slice A n c] 22)).heap.size = w.heap.size + 1 + 1 := by simp
  have b2 := Blk.new (w.alloc (.cells #[.slice none 0 0] 25)) #[.slice A n c] 22
  have b3 := Blk.new ((w.alloc (.cells #[.slice none 0 0] 25)).alloc (.cells #[.slice A n c] 22)) #[.func (.func askf) #[] askl] 86
  rw [h1] at b2
  rw [h2] at b3
  exact ⟨((Blk.new w _ _).alloc _).alloc _, b2.alloc _, b3, (((Below.refl _ _).alloc (Nat.le_refl _) _).alloc (by simp) _).alloc (by simp; omega) _, by simp⟩

/-- What stands where a round's body begins. -/
structure RoundStart (w0 X Y : World) (B D L : Nat) (r : Loop) (v : Value) (pre : List (Tr × Value)) (x : Tr × Value) : Prop where
  out : Blk Y B 25 [v]
  row : kTr.R 29 Y w0.heap.size (fun _ => True) v (pre.map (·.1))
  acc : kAcc.R 33 Y w0.heap.size (fun _ => True) x.2 x.1.f8
  t : Blk Y X.heap.size 29 (trC x.1 x.2)
  busy : Y.heap[L]? = some (.loop (Loop.atBusy r))
  calls : Y.heap[D]? = some (.deferred (some []))
  size : Y.heap.size = X.heap.size + 1
  old : ∀ k, k < X.heap.size → k ≠ L → Y.heap[k]? = X.heap[k]?
  os : Y.os = X.os
  tape : Y.tape = X.tape
  output : Y.output = X.output
theorem R_loop {α : Type} {d : Kd α} {e : Nat} {W : World} {base : Nat} {v : Value} {xs : List α} (h : d.R e W base (fun _ => True) v xs) {L : Nat} {r : Loop} (hl : W.heap[L]? = some (.loop r)) (o : Obj) : d.R e (W.putObj L o) base (fun _ => True) v xs :=
  Kd.R_mono (Kd.R_move (Kd.R_bound h) (fun k hk => World.putObj_heap_other (fun e => by
    obtain ⟨_, _, _, q, _, cells, hc⟩ := hk
    rw [e, hl] at hc
    cases hc))) (fun _ _ => trivial)
theorem blk_loop {W : World} {b T : Nat} {cs : List Value} (h : Blk W b T cs) {L : Nat} {r : Loop} (hl : W.heap[L]? = some (.loop r)) (o : Obj) : Blk (W.putObj L o) b T cs :=
  (World.putObj_heap_other (fun e => by unfold Blk at h; rw [e, hl] at h; cases h)).trans h
theorem round_start {w0 X : World} {B D L : Nat} {r : Loop} {v : Value} {pre : List (Tr × Value)} {x : Tr × Value} (hG : Gather w0 B r D L pre X) (hv : Blk X B 25 [v]) (hR : kTr.R 29 X w0.heap.size (fun _ => True) v (pre.map (·.1)))
    (hacc : kAcc.R 33 X w0.heap.size (fun _ => True) x.2 x.1.f8) (hDL : D ≠ L) : RoundStart w0 X ((X.alloc (.cells (trC x.1 x.2).toArray 29)).putObj L (.loop (Loop.atBusy r))) B D L r v pre x := by
  have hb : Below X.heap.size X (X.alloc (.cells (trC x.1 x.2).toArray 29)) := (Below.refl _ _).alloc (Nat.le_refl _) _
  have hlt := (Array.getElem?_eq_some_iff.1 hG.loop.made).1
  have hl := (hb.block L hlt).trans hG.loop.made
  exact ⟨blk_loop (hv.below hb hv.lt) hl _, R_loop (Kd.R_below hR hb) hl _, R_loop (Kd.R_below hacc hb) hl _, blk_loop (by have := Blk.new X (trC x.1 x.2).toArray 29; simpa using this) hl _,
    World.putObj_heap_same (Nat.lt_of_lt_of_le hlt hb.size), (World.putObj_heap_other hDL).trans ((hb.block D (Array.getElem?_eq_some_iff.1 hG.loop.calls).1).trans hG.loop.calls), by simp, fun k hk hn => (World.putObj_heap_other hn).trans (hb.block k hk), rfl, rfl, rfl⟩

theorem info29 : (Try.prog.info? 29).map (fun i => (i.zero, i.size, i.bytes)) = some (some (.agg #[.int .i64 0, .int .i64 0, .int .i64 0, .int .i64 0, .int .i64 0, .int .i64 0, .int .i64 0, .bool false, .slice none 0 0]), 9, 88) := by kernel_rfl
/-- The element that is appended, made. -/
theorem round_elem {w0 X Y : World} {B D L : Nat} {r : Loop} {v : Value} {pre : List (Tr × Value)} {x : Tr × Value} (h : RoundStart w0 X Y B D L r v pre x) : kTr.M Y w0.heap.size (fun k => some k ≠ v.ownBlock) x.1 (trC x.1 x.2) :=
  k29_mkM _ _ _ x.1 (Kd.R_mono (Kd.R_bound h.acc) (fun k hk he => by
    obtain ⟨_, _, _, q, hq, cells, hc⟩ := hk
    have h1 : Typed Y k 29 := row_typed h.row he.symm
    have h2 : Typed Y k q := ⟨cells, hc⟩
    have h3 := h1.ne h2
    have h4 : q = 33 := by simpa [kAcc, k33, Kd.iso, Kd.pair, Kd.int, Kd.bool, Kd.scalar] using hq
    rw [h4] at h3
    exact absurd h3 (by decide)))

theorem round_end {w0 X Y w4 : World} {B D L : Nat} {r : Loop} {v v1 : Value} {pre : List (Tr × Value)} {x : Tr × Value} (hG : Gather w0 B r D L pre X) (h : RoundStart w0 X Y B D L r v pre x) (hL : w0.heap.size ≤ L)
    (hR : kTr.R 29 w4 w0.heap.size (fun _ => True) v1 (pre.map (·.1) ++ [x.1])) (hg : Y.grownBy w4 v.ownBlock) (hat : v1.ownBlock = v.ownBlock ∨ ∃ b, v1.ownBlock = some b ∧ Y.heap.size ≤ b) :
    Blk w4 B 25 [v] ∧ (w4.setCell ⟨B, 0, none⟩ v1).heap[L]? = some (.loop (Loop.atBusy r)) ∧ Gather w0 B r D L (pre ++ [x]) ((w4.setCell ⟨B, 0, none⟩ v1).putObj L (.loop (Loop.atReady r))) ∧
      Keeps B X ((w4.setCell ⟨B, 0, none⟩ v1).putObj L (.loop (Loop.atReady r))) := by
  have hvt : ∀ k, v.ownBlock = some k → Typed Y k 29 := fun k hk => row_typed h.row hk
  have hBv : some B ≠ v.ownBlock := fun e => absurd ((blk_typed h.out).ne (hvt B e.symm)) (by decide)
  have hLt := (Array.getElem?_eq_some_iff.1 h.busy).1
  have hLv : some L ≠ v.ownBlock := fun e => by
    obtain ⟨c, hc⟩ := hvt L e.symm
    rw [h.busy] at hc
    cases hc
  have hDv : some D ≠ v.ownBlock := fun e => by
    obtain ⟨c, hc⟩ := hvt D e.symm
    rw [h.calls] at hc
    cases hc
  have hLB : L ≠ B := fun e => by have := h.out; unfold Blk at this; rw [← e, h.busy] at this; cases this
  have hDB : D ≠ B := fun e => by have := h.out; unfold Blk at this; rw [← e, h.calls] at this; cases this
  have hDL : D ≠ L := fun e => by have := h.busy; rw [← e, h.calls] at this; cases this
  have hB4 : Blk w4 B 25 [v] := (hg.block B h.out.lt hBv).trans h.out
  have hL4 : (w4.setCell ⟨B, 0, none⟩ v1).heap[L]? = some (.loop (Loop.atBusy r)) := (Below.heap_setCell w4 _ v1 L hLB).trans ((hg.block L hLt hLv).trans h.busy)
  have hD4 : (w4.setCell ⟨B, 0, none⟩ v1).heap[D]? = some (.deferred (some [])) := (Below.heap_setCell w4 _ v1 D hDB).trans ((hg.block D (Array.getElem?_eq_some_iff.1 h.calls).1 hDv).trans h.calls)
  have hsz : (w4.setCell ⟨B, 0, none⟩ v1).heap.size = w4.heap.size := by simp [World.setCell]
  have hB5 : Blk (w4.setCell ⟨B, 0, none⟩ v1) B 25 [v1] := hB4.set 0 v1
  have hB6 := blk_loop hB5 hL4 (.loop (Loop.atReady r))
  have hold : ∀ k, k < X.heap.size → k ≠ L → k ≠ B → some k ≠ v.ownBlock → ((w4.setCell ⟨B, 0, none⟩ v1).putObj L (.loop (Loop.atReady r))).heap[k]? = X.heap[k]? := fun k hk h1 h2 h3 =>
    (World.putObj_heap_other h1).trans ((Below.heap_setCell w4 _ v1 k h2).trans ((hg.block k (by rw [h.size]; omega) h3).trans (h.old k hk h1)))
  obtain ⟨inner, ho⟩ := Kd.R_own h.row
  obtain ⟨u, hu, _⟩ := hG.out.row
  have huv : u = v := by
    have h1 := h.old B hu.lt (Ne.symm hLB)
    have h2 : Blk Y B 25 [u] := h1.trans hu
    have h3 := h2.symm.trans h.out
    injection h3 with h3
    injection h3 with h3
    simpa using h3
  subst huv
  have hout : outRow X B = u.ownBlock := by unfold outRow; rw [hu.cell 0 _ rfl]; rfl
  have hout' : outRow ((w4.setCell ⟨B, 0, none⟩ v1).putObj L (.loop (Loop.atReady r))) B = v1.ownBlock := by unfold outRow; rw [hB6.cell 0 _ rfl]; rfl
  refine ⟨hB4, hL4, ⟨⟨⟨v1, hB6, ?_⟩, ⟨?_, ?_, ?_, ?_, fun k hk => ?_⟩, hG.out.low⟩, ⟨World.putObj_heap_same (Array.getElem?_eq_some_iff.1 hL4).1, (World.putObj_heap_other hDL).trans hD4⟩⟩, ⟨fun k T hk h1 h2 => ?_, fun k hk => ?_, ?_⟩⟩
  · rw [List.map_append]
    exact R_loop (Kd.R_set hR hB4 (by intro q hq; rintro rfl; revert hq; decide) 0 v1) hL4 _
  · exact hg.os.trans (h.os.trans hG.out.below.os)
  · exact hg.tape.trans (h.tape.trans hG.out.below.tape)
  · exact hg.output.trans (h.output.trans hG.out.below.output)
  · have h1 := hG.out.below.size
    have h2 := hg.size
    have h3 := h.size
    simp only [World.putObj_size]
    rw [hsz]
    omega
  · have h1 := hG.out.below.size
    have h2 := hG.out.low
    exact (hold k (by omega) (by omega) (by omega) (fun e => by have := own_base ho k e.symm; omega)).trans (hG.out.below.block k hk)
  · refine hold k (typed_lt hk) (fun e => ?_) h1 (fun e => h2 (hout.trans e.symm))
    obtain ⟨c, hc⟩ := hk
    rw [e, hG.loop.made] at hc
    cases hc
  · rw [hout'] at hk
    rcases hat with hat | ⟨b, hb, hge⟩
    · exact .inl (hout.trans (hat.symm.trans hk))
    · rw [hb] at hk
      injection hk with hk
      have := h.size
      exact .inr (by omega)
  · have h2 := hg.size
    have h3 := h.size
    simp only [World.putObj_size]
    rw [hsz]
    omega

theorem R_calls {α : Type} {d : Kd α} {e : Nat} {W : World} {base : Nat} {v : Value} {xs : List α} (h : d.R e W base (fun _ => True) v xs) {D : Nat} {ds : Option (List Deferred)} (hl : W.heap[D]? = some (.deferred ds)) (o : Obj) : d.R e (W.putObj D o) base (fun _ => True) v xs :=
  Kd.R_mono (Kd.R_move (Kd.R_bound h) (fun k hk => World.putObj_heap_other (fun e => by
    obtain ⟨_, _, _, q, _, cells, hc⟩ := hk
    rw [e, hl] at hc
    cases hc))) (fun _ _ => trivial)
theorem all_end {w0 W : World} {B D L : Nat} {r : Loop} {v : Value} {xs : List (Tr × Value)} {o : Obj} (hLR : LoopReady r D L W) (hG : GatherOut w0 B xs W) (hv : Blk W B 25 [v]) (hR : kTr.R 29 W w0.heap.size (fun _ => True) v (xs.map (·.1))) (hD : w0.heap.size ≤ D ∧ w0.heap.size ≤ L) :
    Blk (W.putObj L o) B 25 [v] ∧ (W.putObj L o).heap[D]? = some (.deferred (some [])) ∧ kTr.R 29 ((W.putObj L o).putObj D (.deferred none)) w0.heap.size (fun _ => True) v (xs.map (·.1)) ∧ Below w0.heap.size w0 ((W.putObj L o).putObj D (.deferred none)) := by
  have hDL : D ≠ L := fun e => by have := hLR.made; rw [← e, hLR.calls] at this; cases this
  have h2 := (World.putObj_heap_other (o := o) hDL).trans hLR.calls
  refine ⟨blk_loop hv hLR.made o, h2, R_calls (R_loop hR hLR.made o) h2 _, ⟨hG.below.os, hG.below.tape, hG.below.output, by have := hG.below.size; simpa using this, fun k hk => ?_⟩⟩
  exact (World.putObj_heap_other (by omega)).trans ((World.putObj_heap_other (by omega)).trans (hG.below.block k hk))

set_option maxHeartbeats 1600000 in
set_option maxRecDepth 100000 in
theorem all_any (w : World) (A : Option Addr) (c : Nat) (l : List Ev) (hC : kEv.C w A l.length l) (hl : l.length ≤ 1000000000) (hok : ∀ e ∈ l, EvOk e) (askf : Nat) (askl : Array Value) (ask : Tr → Bool)
    (heg : ∀ args w, (callFunc askf args).run Try.prog w = .ok (.enter askf args) w)
    (hask : ∀ W base b t row, (∀ k T, Typed w k T → W.heap[k]? = w.heap[k]?) → TryAt W base b t row → Calls Try.prog askf (#[.pointer (some ⟨b, 0, none⟩)] ++ askl) W (fun e W' => e = .returned (.bool (ask t)) ∧ Below W.heap.size W W')) :
    Calls Try.prog 51 #[.slice A l.length c, .func (.func askf) #[] askl] w
      fun e W' => ∃ v, e = .returned v ∧ kTr.R 29 W' w.heap.size (fun _ => True) v (((readM l).getD []).filter ask) ∧ Below w.heap.size w W' := by
  have HC := Veil.mk hC
  have HL := Veil.mk hl
  have HO := Veil.mk hok
  have HAS := Veil.mk hask
  clear hC hl hok hask
  refine (callsIn_wide (n := 6)).1 ?_
  refine callsIn_of_wp_marks Try.func51 rfl trivial ?_ rfl
  simp only [Try.ntmps51, List.size_toArray, List.length_cons, List.length_nil, Nat.reduceAdd, Nat.reduceSub, Array.replicate_succ, Array.replicate_zero, List.push_toArray, List.append_toArray, List.nil_append, List.cons_append]
  gi_wp2_with (first | (refine ⟨trivial, ?_⟩; gi_at_call 75; refine (callsIn_wide.2 (those_any _ A l.length c askf askl)).mono ?_; rintro e w1 ⟨rfl, rfl⟩))
  have HF := Veil.mk (all_start w A l.length c askf askl)
  generalize ((w.alloc (.cells #[.slice none 0 0] 25)).alloc (.cells #[.slice A l.length c] 22)).alloc (.cells #[.func (.func askf) #[] askl] 86) = w3 at *
  refine wpIn_rangeFunc_all (gf := 94) (lb := #[.pointer (some ⟨w.heap.size + 1, 0, none⟩), .pointer (some ⟨w.heap.size + 1 + 1, 0, none⟩)]) rfl (by omega) rfl trivial (enters_of Try.func94 (by kernel_rfl) rfl)
    (Z := fun W => ∃ xs : List (Tr × Value), xs.map (·.1) = ((readM l).getD []).filter ask ∧ GatherOut w w.heap.size xs W) ?_ ?_
  · intro r W hfn htm hps has hbd hLR hbW hsz
    have HG0 : Gather w w.heap.size r w3.heap.size (w3.heap.size + 1) [] W := ⟨⟨⟨.slice none 0 0, HF.out.out.below hbW HF.out.out.lt, Kd.R_nil _ _ _ _ _⟩, HF.out.below.trans (hbW.mono HF.out.below.size), Nat.le_refl _⟩, hLR⟩
    have hkey := those1_any 5 W A c l (Kd.C_below HC.out HG0.out.below) HL.out HO.out (w3.heap.size + 1) w.heap.size (w.heap.size + 1) (w.heap.size + 1 + 1) _ _ askf askl ask (by have := HF.out.size; have := hbW.size; omega) (by omega) (by omega) (blk_typed (HF.out.l.below hbW HF.out.l.lt)) (blk_typed (HF.out.ask.below hbW HF.out.ask.lt))
      ((HF.out.l.below hbW HF.out.l.lt).cell 0 _ rfl) ((HF.out.ask.below hbW HF.out.ask.lt).cell 0 _ rfl) (by unfold outRow; rw [(HF.out.out.below hbW HF.out.out.lt).cell 0 _ rfl]; rfl) heg ?hask (Gather w w.heap.size r w3.heap.size (w3.heap.size + 1)) (fun pre X Y h hb => h.step hb) ?hround HG0
    · refine hkey.mono ?_
      rintro e W2 ⟨he, xs, hxs, hG⟩
      exact ⟨he, hG.loop, xs, hxs, hG.out⟩
    case hask =>
      intro X b t row hS hT
      refine HAS.out X _ b t row (fun k T hk => ?_) hT
      have hk' := typed_lt hk
      have hW0 := HG0.out.below.block k hk'
      rw [hS k T (by obtain ⟨cc, hc⟩ := hk; exact ⟨cc, hW0.trans hc⟩) (by omega)]
      exact hW0
    case hround =>
      rintro pre ⟨t, row⟩ X hlen hJ hacc
      dsimp only at hacc
      obtain ⟨A8, c8, rfl, _, _⟩ := Kd.R_reads hacc
      have HJ := Veil.mk hJ
      have HAC := Veil.mk hacc
      have HLen := Veil.mk hlen
      clear hJ hacc hlen
      refine yieldAt_of (r := r) trivial HJ.out.loop.made (by rw [hps]; rfl) ?_
      rw [has, hbd, hps, htm]
      dsimp only [trC]
      gi_wp2_with fail
      refine ⟨(Below.heap_alloc _ _ _ (Array.getElem?_eq_some_iff.1 HJ.out.loop.made).1).trans HJ.out.loop.made, ?_⟩
      have hrow := HJ.out.out.row
      obtain ⟨v, hv, hR⟩ := hrow
      obtain ⟨A0, c0, rfl, _, _⟩ := Kd.R_reads hR
      rw [List.length_map] at hv hR
      have hB := (round_start (x := (t, .slice A8 t.f8.length c8)) HJ.out hv hR (Kd.R_lower HAC.out HG0.out.below.size) (by have := HF.out.size; omega))
      dsimp only [trC] at hB
      have HB := Veil.mk hB
      clear hB
      generalize (X.alloc (.cells #[.int .i64 t.f0, .int .i64 t.f1, .int .i64 t.f2, .int .i64 t.f3, .int .i64 t.f4, .int .i64 t.f5, .int .i64 t.f6, .bool t.f7, .slice A8 t.f8.length c8] 29)).putObj (w3.heap.size + 1) (.loop (Loop.atBusy r)) = Y at *
      clear hv hR
      have b0 := HB.out.out.cell 0 _ rfl
      have f0 := HB.out.out.free 0
      have t0 := HB.out.t.cell 0 _ rfl
      have t1 := HB.out.t.cell 1 _ rfl
      have t2 := HB.out.t.cell 2 _ rfl
      have t3 := HB.out.t.cell 3 _ rfl
      have t4 := HB.out.t.cell 4 _ rfl
      have t5 := HB.out.t.cell 5 _ rfl
      have t6 := HB.out.t.cell 6 _ rfl
      have t7 := HB.out.t.cell 7 _ rfl
      have t8 := HB.out.t.cell 8 _ rfl
      dsimp only at t0 t1 t2 t3 t4 t5 t6 t7 t8
      have hbl : ((pre.map (·.1)).length + 1) * 88 ≤ 140737488355328 := by have := HL.out; have := HLen.out; rw [List.length_map]; omega
      have hbase : w.heap.size ≤ Y.heap.size := by have := HB.out.size; have := HJ.out.out.below.size; omega
      have HA := Veil.mk (And.intro hbl (And.intro hbase (round_elem HB.out)))
      clear hbl hbase
      gi_wp2_with (first | (gi_at_builtin; go_must (refine R_appendIn kTr w.heap.size rfl (.tmp 11) (.tmp 13) 25 29 (.agg #[.int .i64 0, .int .i64 0, .int .i64 0, .int .i64 0, .int .i64 0, .int .i64 0, .int .i64 0, .bool false, .slice none 0 0]) 88 rfl Try.underlying25 info29 rfl (Nat.succ_pos 8) (Nat.succ_pos 87) (.slice A0 pre.length c0) (pre.map (·.1)) t _ (fun _ => True) (fun k => some k ≠ (Value.slice A0 pre.length c0).ownBlock) ?hs ?hx ?hp (fun _ h => ⟨trivial, h⟩) (fun _ _ => trivial) ?ho ?hb ?hl ?_); go_must (case hs => rfl); go_must (case hx => rfl); go_must (case ho => exact HB.out.row); go_must (case hb => exact HA.out.2.1); go_must (case hl => exact HA.out.1); go_must (case hp => exact HA.out.2.2)))
      intro v1 w4 hR4 hg4 hat4
      have HE := Veil.mk (round_end HJ.out HB.out (by have := HF.out.below.size; omega) hR4 hg4 hat4)
      have b0 := HE.out.1.cell 0 _ rfl
      have f0 := HE.out.1.free 0
      obtain ⟨A9, c9, rfl, _, _⟩ := Kd.R_reads hR4
      clear hR4 hg4 hat4
      gi_wp2
      have hfin := HE.out.2
      rw [show (pre.map (·.1) ++ [t]).length = pre.length + 1 from by simp] at hfin
      exact hfin
  · rintro r W hLR ⟨xs, hxs, hG⟩
    have hrow := hG.row
    obtain ⟨v, hv, hR⟩ := hrow
    have HE := Veil.mk (all_end hLR hG hv hR (o := .loop (Loop.atEnd r)) (by have := HF.out.below.size; omega))
    have HXS := Veil.mk hxs
    clear hLR hG hv hR hxs
    have b0 := HE.out.1.cell 0 _ rfl
    obtain ⟨A9, c9, rfl, _, _⟩ := Kd.R_reads HE.out.2.2.1
    gi_wp2
    refine ⟨by simp, .inl ⟨_, _, rfl, run_takeDeferred HE.out.2.1, ?_⟩⟩
    exact ⟨_, results_tmp rfl _ _ _, _, rfl, by have h := HE.out.2.2.1; rw [List.length_map] at h; rw [← HXS.out]; exact h, HE.out.2.2.2⟩
end Go.Proofs.Ytjmnbbflahacoaa.Hist
