/- model, third part: a row that grows in a range over a function; States, Last. No condition. -/
import Derived.Test.YtjmnbbflahacoaaModelB
namespace Go.Proofs.Ytjmnbbflahacoaa.Model
open Go.RowKit Go.ChangeMaps Go.Maps Go.Proofs.Ytjmnbbflahacoaa.Mem Go.Proofs.Ytjmnbbflahacoaa.Hist Go.Proofs.Ytjmnbbflahacoaa.PHistTells Go.Proofs.YtjmnbbflahacoaaW.PrintWords
set_option linter.unusedVariables false
set_option linter.unusedSimpArgs false
attribute [local go_sem] Oper.semAt_some

/-- A row in the box B that grows, while the loop r runs. -/
structure Grow {α : Type} (d : Kd α) (e TB : Nat) (w0 : World) (B : Nat) (r : Loop) (D L : Nat) (xs : List α) (W : World) : Prop where
  row : ∃ v, Blk W B TB [v] ∧ d.R e W w0.heap.size (fun _ => True) v xs
  below : Below w0.heap.size w0 W
  low : w0.heap.size ≤ B
  lowL : w0.heap.size ≤ L
  lowD : w0.heap.size ≤ D
  loop : LoopReady r D L W
theorem Grow.step {α : Type} {d : Kd α} {e TB : Nat} {w0 W W' : World} {B : Nat} {r : Loop} {D L : Nat} {xs : List α} (h : Grow d e TB w0 B r D L xs W) (hb : Below W.heap.size W W') : Grow d e TB w0 B r D L xs W' := by
  obtain ⟨v, hB, hR⟩ := h.row
  exact ⟨⟨v, hB.below hb hB.lt, Kd.R_below hR hb⟩, h.below.trans (hb.mono h.below.size), h.low, h.lowL, h.lowD, ⟨(hb.block L (Array.getElem?_eq_some_iff.1 h.loop.made).1).trans h.loop.made, (hb.block D (Array.getElem?_eq_some_iff.1 h.loop.calls).1).trans h.loop.calls⟩⟩
theorem Grow.ne {α : Type} {d : Kd α} {e TB : Nat} {w0 W : World} {B : Nat} {r : Loop} {D L : Nat} {xs : List α} (h : Grow d e TB w0 B r D L xs W) : D ≠ L := fun he => by have := h.loop.made; rw [← he, h.loop.calls] at this; cases this

/-- What stands where a round's body begins. -/
structure GrowAt {α : Type} (d : Kd α) (e TB : Nat) (w0 X Y : World) (B D L : Nat) (r : Loop) (v : Value) (xs : List α) : Prop where
  out : Blk Y B TB [v]
  row : d.R e Y w0.heap.size (fun _ => True) v xs
  busy : Y.heap[L]? = some (.loop (Loop.atBusy r))
  calls : Y.heap[D]? = some (.deferred (some []))
  size : Y.heap.size = X.heap.size
  old : ∀ k, k ≠ L → Y.heap[k]? = X.heap[k]?
  os : Y.os = X.os
  tape : Y.tape = X.tape
  output : Y.output = X.output
theorem grow_start {α : Type} {d : Kd α} {e TB : Nat} {w0 X : World} {B D L : Nat} {r : Loop} {v : Value} {xs : List α} (hG : Grow d e TB w0 B r D L xs X) (hv : Blk X B TB [v]) (hR : d.R e X w0.heap.size (fun _ => True) v xs) :
    GrowAt d e TB w0 X (X.putObj L (.loop (Loop.atBusy r))) B D L r v xs :=
  ⟨blk_loop hv hG.loop.made _, R_loop hR hG.loop.made _, World.putObj_heap_same (Array.getElem?_eq_some_iff.1 hG.loop.made).1, (World.putObj_heap_other hG.ne).trans hG.loop.calls, by simp, fun k hn => World.putObj_heap_other hn, rfl, rfl, rfl⟩
theorem grow_end {α : Type} {d : Kd α} {e TB : Nat} {w0 X Y w4 : World} {B D L : Nat} {r : Loop} {v v1 : Value} {xs : List α} {x : α} (hG : Grow d e TB w0 B r D L xs X) (h : GrowAt d e TB w0 X Y B D L r v xs) (hT : e ≠ TB) (hTE : ∀ q, q ∈ e :: d.E → q ≠ TB)
    (hR : d.R e w4 w0.heap.size (fun _ => True) v1 (xs ++ [x])) (hg : Y.grownBy w4 v.ownBlock) (hat : v1.ownBlock = v.ownBlock ∨ ∃ b, v1.ownBlock = some b ∧ Y.heap.size ≤ b) :
    Blk w4 B TB [v] ∧ (w4.setCell ⟨B, 0, none⟩ v1).heap[L]? = some (.loop (Loop.atBusy r)) ∧ Grow d e TB w0 B r D L (xs ++ [x]) ((w4.setCell ⟨B, 0, none⟩ v1).putObj L (.loop (Loop.atReady r))) ∧
      (∀ k T, Typed X k T → T ≠ TB → T ≠ e → ((w4.setCell ⟨B, 0, none⟩ v1).putObj L (.loop (Loop.atReady r))).heap[k]? = X.heap[k]?) ∧ X.heap.size ≤ ((w4.setCell ⟨B, 0, none⟩ v1).putObj L (.loop (Loop.atReady r))).heap.size := by
  have hvt : ∀ k, v.ownBlock = some k → Typed Y k e := fun k hk => row_typed h.row hk
  have hBv : some B ≠ v.ownBlock := fun he => absurd ((blk_typed h.out).ne (hvt B he.symm)) (by simpa using Ne.symm hT)
  have hLt := (Array.getElem?_eq_some_iff.1 h.busy).1
  have hLv : some L ≠ v.ownBlock := fun he => by
    obtain ⟨c, hc⟩ := hvt L he.symm
    rw [h.busy] at hc
    cases hc
  have hDv : some D ≠ v.ownBlock := fun he => by
    obtain ⟨c, hc⟩ := hvt D he.symm
    rw [h.calls] at hc
    cases hc
  have hLB : L ≠ B := fun he => by have := h.out; unfold Blk at this; rw [← he, h.busy] at this; cases this
  have hDB : D ≠ B := fun he => by have := h.out; unfold Blk at this; rw [← he, h.calls] at this; cases this
  have hDL := hG.ne
  have hB4 : Blk w4 B TB [v] := (hg.block B h.out.lt hBv).trans h.out
  have hL4 : (w4.setCell ⟨B, 0, none⟩ v1).heap[L]? = some (.loop (Loop.atBusy r)) := (Below.heap_setCell w4 _ v1 L hLB).trans ((hg.block L hLt hLv).trans h.busy)
  have hD4 : (w4.setCell ⟨B, 0, none⟩ v1).heap[D]? = some (.deferred (some [])) := (Below.heap_setCell w4 _ v1 D hDB).trans ((hg.block D (Array.getElem?_eq_some_iff.1 h.calls).1 hDv).trans h.calls)
  have hsz : (w4.setCell ⟨B, 0, none⟩ v1).heap.size = w4.heap.size := by simp [World.setCell]
  have hB5 : Blk (w4.setCell ⟨B, 0, none⟩ v1) B TB [v1] := hB4.set 0 v1
  have hB6 := blk_loop hB5 hL4 (.loop (Loop.atReady r))
  have hold : ∀ k, k < X.heap.size → k ≠ L → k ≠ B → some k ≠ v.ownBlock → ((w4.setCell ⟨B, 0, none⟩ v1).putObj L (.loop (Loop.atReady r))).heap[k]? = X.heap[k]? := fun k hk h1 h2 h3 =>
    (World.putObj_heap_other h1).trans ((Below.heap_setCell w4 _ v1 k h2).trans ((hg.block k (by rw [h.size]; omega) h3).trans (h.old k h1)))
  obtain ⟨inner, ho⟩ := Kd.R_own h.row
  refine ⟨hB4, hL4, ⟨⟨v1, hB6, R_loop (Kd.R_set hR hB4 hTE 0 v1) hL4 _⟩, ⟨?_, ?_, ?_, ?_, fun k hk => ?_⟩, hG.low, hG.lowL, hG.lowD, ⟨World.putObj_heap_same (Array.getElem?_eq_some_iff.1 hL4).1, (World.putObj_heap_other hDL).trans hD4⟩⟩, fun k T hk h1 h2 => ?_, ?_⟩
  · exact hg.os.trans (h.os.trans hG.below.os)
  · exact hg.tape.trans (h.tape.trans hG.below.tape)
  · exact hg.output.trans (h.output.trans hG.below.output)
  · have h1 := hG.below.size
    have h2 := hg.size
    have h3 := h.size
    simp only [World.putObj_size]
    rw [hsz]
    omega
  · have h1 := hG.below.size
    have h2 := hG.low
    have h3 := hG.lowL
    exact (hold k (by omega) (by omega) (by omega) (fun he => by have := own_base ho k he.symm; omega)).trans (hG.below.block k hk)
  · have hkt := typed_lt hk
    obtain ⟨c, hc⟩ := hk
    refine hold k hkt (fun he => ?_) (fun he => ?_) (fun he => ?_)
    · rw [he, hG.loop.made] at hc
      cases hc
    · have hb := h.out
      have hL' : B ≠ L := Ne.symm hLB
      have := (h.old B hL').symm.trans hb
      rw [he] at hc
      rw [hc] at this
      injection this with this
      injection this with _ this _
      exact h1 this
    · have h3 := hvt k he.symm
      obtain ⟨c', hc'⟩ := h3
      have hkL : k ≠ L := fun hh => by rw [hh, hG.loop.made] at hc; cases hc
      rw [h.old k hkL, hc] at hc'
      injection hc' with hc'
      injection hc' with _ hc' _
      exact h2 hc'
  · have h2 := hg.size
    have h3 := h.size
    simp only [World.putObj_size]
    rw [hsz]
    omega

theorem grow_done {α : Type} {d : Kd α} {e TB : Nat} {w0 W : World} {B D L : Nat} {r : Loop} {v : Value} {xs : List α} {o : Obj} (hLR : LoopReady r D L W) (hv : Blk W B TB [v]) (hR : d.R e W w0.heap.size (fun _ => True) v xs) (hb : Below w0.heap.size w0 W) (hD : w0.heap.size ≤ D) (hL : w0.heap.size ≤ L) :
    Blk (W.putObj L o) B TB [v] ∧ (W.putObj L o).heap[D]? = some (.deferred (some [])) ∧ d.R e ((W.putObj L o).putObj D (.deferred none)) w0.heap.size (fun _ => True) v xs ∧ Below w0.heap.size w0 ((W.putObj L o).putObj D (.deferred none)) := by
  have hDL : D ≠ L := fun e => by have := hLR.made; rw [← e, hLR.calls] at this; cases this
  have h2 := (World.putObj_heap_other (o := o) hDL).trans hLR.calls
  refine ⟨blk_loop hv hLR.made o, h2, R_calls (R_loop hR hLR.made o) h2 _, ⟨hb.os, hb.tape, hb.output, by have := hb.size; simpa using this, fun k hk => ?_⟩⟩
  exact (World.putObj_heap_other (by omega)).trans ((World.putObj_heap_other (by omega)).trans (hb.block k hk))

/-- A row of one, made. -/
theorem R_lit1 {α : Type} {d : Kd α} {W : World} {base e : Nat} {ok : Nat → Prop} {x : α} {cs : List Value} (hM : d.M W base ok x cs) (hbase : base ≤ W.heap.size) :
    d.R e (W.alloc (.cells cs.toArray e)) base (fun _ => True) (.slice (some ⟨W.heap.size, 0, none⟩) 1 1) [x] := by
  have hlen := d.K_len (d.K_of_M hM)
  have hrep : Reps (d.M W base ok) d.sz [x] cs := by
    have := Reps.snoc (Reps.none (d.M W base ok) d.sz) hM hlen
    simpa using this
  refine ⟨fun k hk => trivial, cs, ?_, ?_⟩
  · have h2 := World.ownsRow_lit (base := base) (e := e) (size := d.sz) W cs.toArray 1 hbase (by simp [maxLen]) (by simpa using hlen)
    simpa using h2
  · refine hrep.imp_ (fun p c hp => d.M_mono (fun k hk => ⟨trivial, fun he => ?_⟩) (Kd.M_below (d.M_bound hp) (below_alloc (Below.refl _ _) _)))
    have h3 : k = W.heap.size := by simpa [Value.ownBlock] using he
    have := hk.2.2.1
    omega

abbrev kS : Kd (List Int) := Kd.slice 2 kI
theorem infoS : (Try.prog.info? 47).map (fun i => (i.zero, i.size, i.bytes)) = some (some (.slice none 0 0), 1, 24) := by kernel_rfl
/-- The first values, and those behind each of the first k tries. -/
def stsUpTo (first : List Int) (cs : List Tr) (k : Nat) : List (List Int) := first :: (List.range k).map (fun i : Nat => foldM first (cs.take (i + 1)))
theorem stsUpTo_next (first : List Int) (cs : List Tr) (k : Nat) : stsUpTo first cs (k + 1) = stsUpTo first cs k ++ [foldM first (cs.take (k + 1))] := by
  unfold stsUpTo
  rw [List.range_succ, List.map_append]
  rfl
theorem stsUpTo_length (first : List Int) (cs : List Tr) (k : Nat) : (stsUpTo first cs k).length = k + 1 := by simp [stsUpTo]
/-- The states of a trace. -/
def stsM (first : List Int) (l : List Ev) : List (List Int) := stsUpTo first (commitsM l) (commitsM l).length

theorem statesf_any (w : World) (Av : Option Addr) (n cv : Nat) (A : Option Addr) (m c : Nat) : Calls Try.prog 64 #[.slice Av n cv, .slice A m c] w
      fun ed w' => ed = .returned (.func (.func 79) #[] #[.pointer (some ⟨w.heap.size, 0, none⟩), .pointer (some ⟨w.heap.size + 1, 0, none⟩)]) ∧ w' = (w.alloc (.cells #[.slice Av n cv] 47)).alloc (.cells #[.slice A m c] 22) := by
  go_enter Try.func64, Try.ntmps64
  go_wp2
  go_ret
  exact ⟨rfl, rfl⟩

theorem sts_elem {Y : World} {base : Nat} {v vo : Value} {xs : List Int} {ys : List (List Int)} (h : kI.R 2 Y base (fun _ => True) v xs) (ho : kS.R 47 Y base (fun _ => True) vo ys) : kS.M Y base (fun j => some j ≠ vo.ownBlock) xs [v] :=
  ⟨v, rfl, Kd.R_mono (Kd.R_bound h) (fun k hk he => by
    obtain ⟨_, _, _, q, hq, cells, hc⟩ := hk
    have hq' : q = 2 := by simpa [kI, Kd.int, Kd.scalar] using hq
    have h1 : Typed Y k 47 := row_typed ho he.symm
    have h2 : Typed Y k q := ⟨cells, hc⟩
    have h3 := h1.ne h2
    rw [hq'] at h3
    exact absurd h3 (by decide))⟩

/-- What stands where States's loop begins. -/
structure StsStart (w w1 w5 : World) (v : Value) (first : List Int) (Av : Option Addr) (n cv : Nat) (A : Option Addr) (m c : Nat) : Prop where
  out : Blk w5 (w1.heap.size + 1) 51 [.slice (some ⟨w1.heap.size, 0, none⟩) 1 1]
  row : kS.R 47 w5 w.heap.size (fun _ => True) (.slice (some ⟨w1.heap.size, 0, none⟩) 1 1) [first]
  f : w5.cell? ⟨w1.heap.size + 1 + 1, 0, none⟩ = some (.slice Av n cv)
  l : w5.cell? ⟨w1.heap.size + 1 + 1 + 1, 0, none⟩ = some (.slice A m c)
  below : Below w.heap.size w w5
  size : w5.heap.size = w1.heap.size + 4
theorem sts_start {w w1 : World} {v : Value} {first : List Int} (hb : Below w.heap.size w w1) (hv : kI.R 2 w1 w.heap.size (fun _ => True) v first) (Av : Option Addr) (n cv : Nat) (A : Option Addr) (m c : Nat) :
    StsStart w w1 ((((w1.alloc (.cells #[v] 47)).alloc (.cells #[.slice (some ⟨w1.heap.size, 0, none⟩) 1 1] 51)).alloc (.cells #[.slice Av n cv] 47)).alloc (.cells #[.slice A m c] 22)) v first Av n cv A m c := by
  have h1 : (w1.alloc (.cells #[v] 47)).heap.size = w1.heap.size + 1 := by simp
  have h2 : ((w1.alloc (.cells #[v] 47)).alloc (.cells #[.slice (some ⟨w1.heap.size, 0, none⟩) 1 1] 51)).heap.size = w1.heap.size + 2 := by simp
  have h3 : (((w1.alloc (.cells #[v] 47)).alloc (.cells #[.slice (some ⟨w1.heap.size, 0, none⟩) 1 1] 51)).alloc (.cells #[.slice Av n cv] 47)).heap.size = w1.heap.size + 3 := by simp
  have r1 := R_lit1 (d := kS) (e := 47) (x := first) (cs := [v]) (ok := fun _ => True) (W := w1) (base := w.heap.size) ⟨v, rfl, hv⟩ hb.size
  have b2 := Blk.new (w1.alloc (.cells #[v] 47)) #[.slice (some ⟨w1.heap.size, 0, none⟩) 1 1] 51
  have b3 := Blk.new ((w1.alloc (.cells #[v] 47)).alloc (.cells #[.slice (some ⟨w1.heap.size, 0, none⟩) 1 1] 51)) #[.slice Av n cv] 47
  have b4 := Blk.new (((w1.alloc (.cells #[v] 47)).alloc (.cells #[.slice (some ⟨w1.heap.size, 0, none⟩) 1 1] 51)).alloc (.cells #[.slice Av n cv] 47)) #[.slice A m c] 22
  rw [h1] at b2
  rw [h2] at b3
  rw [h3] at b4
  have hs := hb.size
  refine ⟨(b2.alloc _).alloc _, ?_, (b3.alloc _).cell 0 _ rfl, b4.cell 0 _ rfl, ((((hb.alloc hs _).alloc (by rw [h1]; omega) _).alloc (by rw [h2]; omega) _).alloc (by rw [h3]; omega) _), by simp⟩
  exact Kd.R_below r1 ((((Below.refl _ _).alloc (Nat.le_refl _) _).alloc (by simp) _).alloc (by simp) _)

set_option maxHeartbeats 4000000 in
set_option maxRecDepth 100000 in
theorem states_any (w : World) (A : Option Addr) (c : Nat) (l : List Ev) (Av : Option Addr) (cv : Nat) (first : List Int) (hC : kEv.C w A l.length l) (hl : l.length ≤ 1000000) (hok : ∀ e ∈ l, EvOk e) (hF : kI.C w Av first.length first) (hfl : first.length ≤ 1000000) (hacc : ∀ t ∈ commitsM l, t.f8.length ≤ 1000000) :
    Calls Try.prog 33 #[.slice Av first.length cv, .slice A l.length c] w
      fun e W' => ∃ v, e = .returned v ∧ kS.R 47 W' w.heap.size (fun _ => True) v (stsM first l) ∧ Below w.heap.size w W' := by
  have HC := Veil.mk hC
  have HL := Veil.mk hl
  have HO := Veil.mk hok
  have HF := Veil.mk hF
  have HFL := Veil.mk hfl
  have HAC := Veil.mk hacc
  have HCL := Veil.mk (clone_any w Av cv first hF hfl)
  clear hC hl hok hF hfl hacc
  refine (callsIn_wide (n := 6)).1 ?_
  refine callsIn_of_wp_marks Try.func33 rfl trivial ?_ rfl
  simp only [Try.ntmps33, List.size_toArray, List.length_cons, List.length_nil, Nat.reduceAdd, Nat.reduceSub, Array.replicate_succ, Array.replicate_zero, List.push_toArray, List.append_toArray, List.nil_append, List.cons_append]
  gi_wp2_with (first | (refine ⟨trivial, ?_⟩; gi_at_call 63; refine (callsIn_wide.2 HCL.out).mono ?_; rintro e w1 ⟨v, rfl, hv, hb⟩; have HV := Veil.mk hv; have HB1 := Veil.mk hb; have hvr := Kd.R_slice hv; obtain ⟨A1, c1, rfl⟩ := hvr; clear hv hb) | (refine ⟨trivial, ?_⟩; gi_at_call 64; refine (callsIn_wide.2 (statesf_any _ Av first.length cv A l.length c)).mono ?_; rintro e w5 ⟨rfl, rfl⟩))
  have HS := Veil.mk (sts_start HB1.out HV.out Av first.length cv A l.length c)
  generalize (((w1.alloc (.cells #[.slice A1 first.length c1] 47)).alloc (.cells #[.slice (some ⟨w1.heap.size, 0, none⟩) 1 1] 51)).alloc (.cells #[.slice Av first.length cv] 47)).alloc (.cells #[.slice A l.length c] 22) = w5 at *
  have hw1 := HB1.out.size
  refine wpIn_rangeFunc_all (gf := 79) (lb := #[.pointer (some ⟨w1.heap.size + 1 + 1, 0, none⟩), .pointer (some ⟨w1.heap.size + 1 + 1 + 1, 0, none⟩)]) rfl (by omega) rfl trivial (enters_of Try.func79 (by kernel_rfl) rfl)
    (Z := fun W => ∃ r D L, Grow kS 47 51 w (w1.heap.size + 1) r D L (stsM first l) W) ?_ ?_
  · intro r W hfn htm hps has hbd hLR hbW hsz
    have hbelow := HS.out.below.trans (hbW.mono HS.out.below.size)
    have HG0 : Grow kS 47 51 w (w1.heap.size + 1) r w5.heap.size (w5.heap.size + 1) (stsUpTo first (commitsM l) 0) W :=
      ⟨⟨_, HS.out.out.below hbW HS.out.out.lt, Kd.R_below HS.out.row hbW⟩, hbelow, by omega, by have := HS.out.below.size; omega, HS.out.below.size, hLR⟩
    have hkey := states1_any 5 W A c l (Kd.C_below HC.out hbelow) HL.out HO.out Av cv first (Kd.C_below HF.out hbelow) HFL.out (w5.heap.size + 1) (w1.heap.size + 1 + 1) (w1.heap.size + 1 + 1 + 1)
      ((hbW.cell (p := ⟨w1.heap.size + 1 + 1, 0, none⟩) (World.block_lt_of_cell? w5 _ HS.out.f)).trans HS.out.f) ((hbW.cell (p := ⟨w1.heap.size + 1 + 1 + 1, 0, none⟩) (World.block_lt_of_cell? w5 _ HS.out.l)).trans HS.out.l) HAC.out
      (fun k X => Grow kS 47 51 w (w1.heap.size + 1) r w5.heap.size (w5.heap.size + 1) (stsUpTo first (commitsM l) k) X) (fun k X Y h hb => h.step hb) ?hround HG0
    · refine hkey.mono ?_
      rintro e W2 ⟨he, hG⟩
      exact ⟨he, hG.loop, r, _, _, hG⟩
    case hround =>
      intro k t row v X hk ht hJ hac hv
      have HJ := Veil.mk hJ
      have HV2 := Veil.mk (Kd.R_lower hv hbelow.size)
      have HK := Veil.mk hk
      have HN := Veil.mk (stsUpTo_next first (commitsM l) k)
      have HLL := Veil.mk (stsUpTo_length first (commitsM l) k)
      clear hJ hac hv hk ht
      refine yieldAt_of (r := r) trivial HJ.out.loop.made (by rw [hps]; rfl) ?_
      rw [has, hbd, hps, htm]
      dsimp only [trC]
      gi_wp2_with fail
      refine ⟨HJ.out.loop.made, ?_⟩
      have hrow := HJ.out.row
      obtain ⟨vo, hvo, hR⟩ := hrow
      obtain ⟨A0, c0, rfl, _, _⟩ := Kd.R_reads hR
      obtain ⟨Av2, cv2, rfl⟩ := Kd.R_slice HV2.out
      rw [HLL.out] at hvo hR
      have hB := grow_start HJ.out hvo hR
      have HB := Veil.mk hB
      have HVY := Veil.mk (R_loop HV2.out HJ.out.loop.made (.loop (Loop.atBusy r)))
      clear hB hvo hR
      generalize X.putObj (w5.heap.size + 1) (.loop (Loop.atBusy r)) = Y at *
      have b0 := HB.out.out.cell 0 _ rfl
      have f0 := HB.out.out.free 0
      have hXs : w.heap.size ≤ Y.heap.size := by have := HB.out.size; have := HJ.out.below.size; omega
      have HA := Veil.mk (And.intro hXs (sts_elem HVY.out HB.out.row))
      have hkl := HK.out
      have hll := HL.out
      clear hXs
      gi_wp2_with (first | (gi_at_builtin; go_must (refine R_appendIn kS w.heap.size rfl (.tmp 16) (.tmp 18) 51 47 (.slice none 0 0) 24 rfl Try.underlying51 infoS rfl (Nat.succ_pos 0) (Nat.succ_pos 23) (.slice A0 (k + 1) c0) (stsUpTo first (commitsM l) k) (foldM first ((commitsM l).take (k + 1))) _ (fun _ => True) (fun j => some j ≠ (Value.slice A0 (k + 1) c0).ownBlock) ?hs ?hx ?hp (fun _ h => ⟨trivial, h⟩) (fun _ _ => trivial) ?ho ?hb ?hl ?_); go_must (case hs => rfl); go_must (case hx => rfl); go_must (case ho => exact HB.out.row); go_must (case hb => exact HA.out.1); go_must (case hl => rw [HLL.out]; omega); go_must (case hp => exact HA.out.2)))
      intro v1 w4 hR4 hg4 hat4
      have HE := Veil.mk (grow_end HJ.out HB.out (by decide) (by intro q hq; have hq' : q = 47 ∨ q = 2 := (by simpa [kS, kI, Kd.slice, Kd.int, Kd.scalar] using hq); rcases hq' with rfl | rfl <;> decide) hR4 hg4 hat4)
      have b0 := HE.out.1.cell 0 _ rfl
      have f0 := HE.out.1.free 0
      obtain ⟨A9, c9, rfl, _, _⟩ := Kd.R_reads hR4
      have hl9 : (stsUpTo first (commitsM l) k ++ [foldM first ((commitsM l).take (k + 1))]).length = (stsUpTo first (commitsM l) k).length + 1 := by rw [List.length_append]; rfl
      rw [hl9] at HE
      clear hR4 hg4 hat4 hl9
      gi_wp2
      have hfin := HE.out.2
      rw [← HN.out] at hfin
      exact ⟨hfin.1, hfin.2.1, ⟨fun j T hj hT => hfin.2.2.1 j T hj (by rcases hT with rfl | rfl | rfl <;> decide) (by rcases hT with rfl | rfl | rfl <;> decide), hfin.2.2.2⟩⟩
  · rintro r W hLR ⟨r', D', L', hG⟩
    have hrow := hG.row
    obtain ⟨v, hv, hR⟩ := hrow
    have HE := Veil.mk (grow_done hLR hv hR hG.below HS.out.below.size (by have := HS.out.below.size; omega) (o := .loop (Loop.atEnd r)))
    clear hLR hG hv hR
    have b0 := HE.out.1.cell 0 _ rfl
    obtain ⟨A9, c9, rfl, _, _⟩ := Kd.R_reads HE.out.2.2.1
    gi_wp2
    refine ⟨by simp, .inl ⟨_, _, rfl, run_takeDeferred HE.out.2.1, ?_⟩⟩
    exact ⟨_, results_tmp rfl _ _ _, _, rfl, by have h := HE.out.2.2.1; exact h, HE.out.2.2.2⟩
end Go.Proofs.Ytjmnbbflahacoaa.Model
