/- A range over a function whose body may leave: the statement, a round; and a region that draws its order within a round. No condition. -/
import Derived.Test.YtjmnbbflahacoaaModA
import Derived.Test.YtjmnbbflahacoaaLate
namespace Go.Proofs.Ytjmnbbflahacoaa.Mem
open Go.RowKit
set_option linter.unusedVariables false
set_option linter.unusedSimpArgs false

theorem rows_in {P : Program} {L n : Nat} {row : String} {args : Array Value} {w : World} {R : Value → World → Prop} (h : Rows P row args w R) : RowsIn (Fence.wide.inRound L) n P row args w R :=
  fun c cs _ => let ⟨v, w', r, s⟩ := h c cs; ⟨v, w', r, stepsIn_wide.2 s⟩
theorem upon_in {P : Program} {L n : Nat} {o : Oper} {a : Act} {next : Act → World → Prop} {Q : Exit → Act → World → Prop} {r : Result Next} (h : o.upon P a next Q r) : o.uponIn (Fence.wide.inRound L) n P a next Q r := by
  unfold Oper.upon at h
  unfold Oper.uponIn
  split at h
  · exact h
  · exact h
  · exact h
  · exact ⟨(fun h => by cases h), CallsIn.inRound L (callsIn_wide.2 h)⟩
  · exact ⟨(fun h => by cases h), rows_in h⟩
  · exact h
  · exact h.elim
/-- No defer statement is among a region's operations. -/
def noDefer (ops : Array Oper) : Bool := ops.toList.all fun o => match o.op with
  | .defer _ => false
  | _ => true
theorem oper_in {P : Program} {L n : Nat} {o : Oper} {a : Act} {w : World} {next : Act → World → Prop} {Q : Exit → Act → World → Prop} (hd : ∀ c, o.op ≠ .defer c) (h : o.wp P a w next Q) : o.wpIn (Fence.wide.inRound L) n P a w next Q := by
  refine ⟨fun _ _ => trivial, ?_⟩
  rw [show (Fence.wide.inRound L).round = some L from rfl, Oper.semAt_some L a.eval o hd]
  exact upon_in h
section
variable {P : Program} {L n : Nat} {ops : Array Oper} {Q : Exit → Act → World → Prop} {md : Region.Mode}
theorem wpOp_in {i : Nat} {K K' : Act → World → Prop} {a : Act} {w : World} (hlo : ¬ LetsOut Q) (hd : noDefer ops = true) (hK : ∀ a w, K a w → K' a w) (h : wpOp P ops Q i K a w) : wpOpIn (Fence.wide.inRound L) n P ops Q i K' a w := by
  unfold wpOp at h
  unfold wpOpIn
  split at h
  · rename_i he
    rw [he]
    exact hK _ _ h
  · rename_i o he
    rw [he]
    have hdo : ∀ c, o.op ≠ .defer c := fun c hc => by
      have := List.all_eq_true.1 hd o (by simpa using Array.mem_of_getElem? he)
      rw [hc] at this
      simp at this
    split at h
    · rename_i hw
      simp only [hw, if_true]
      rcases h with h | h
      · exact Oper.wpIn_mono hK (oper_in hdo h)
      · exact absurd h.2 hlo
    · rename_i hw
      simp only [hw, if_false, Bool.false_eq_true]
      exact ⟨fun _ _ => trivial, hK _ _ h⟩
theorem wpAny_in (hlo : ¬ LetsOut Q) (hd : noDefer ops = true) : ∀ (fuel : Nat) (listed : Array Bool) (a : Act) (w : World), wpAny P md ops Q fuel listed a w → wpAnyIn (Fence.wide.inRound L) n P md ops Q fuel listed a w
  | 0, _, _, _, h => h
  | fuel + 1, listed, a, w, h => ⟨h.1, fun i hi => wpOp_in hlo hd (fun a' w' h' => wpAny_in hlo hd fuel _ a' w' h') (h.2 i hi)⟩
/-- A region that draws its order, within a round: walked in one order. -/
theorem wpIn_region_X {id : Nat} {a : Act} {w : World} (S : World → Prop) (X : List Nat) (hm : P.follows .mixedOrders = true) (hd : noDefer ops = true) (hlo : ¬ LetsOut Q)
    (h : wpAnyX P .any ops Q S X ops.size (Array.replicate ops.size false) a w.drew) : (Code.region id ops true).wpIn (Fence.wide.inRound L) n P Q a w :=
  wpIn_region_any hm (wpAny_in hlo hd _ _ _ _ (wpAny_of_X _ _ _ _ h))
end

/-- A loop's record where a round has left by 'return'; and behind the loop. -/
def Loop.atLeft (r : Loop) : Loop := { r with state := .done, pending := some .ret }
def Loop.atOut (r : Loop) : Loop := { r with state := .exhausted, pending := some .ret }
theorem yieldAt_or {F : Fence} {n : Nat} {P : Program} {L : Nat} {r : Loop} {args : Array Value} {W : World} {R R2 : World → Prop} (hF : F.fn r.fn) (hR : W.heap[L]? = some (.loop (Loop.atReady r))) (hps : args.size = r.params.size)
    (h : r.assign.wpIn (F.inRound L) n P (Exit.then (fun a' Wa => Wa.heap[L]? = some (.loop (Loop.atReady r)) ∧ r.body.wpIn (F.inRound L) n P (fun e _ W3 => W3.heap[L]? = some (.loop (Loop.atBusy r)) ∧ ((e = .normal ∧ R (W3.putObj L (.loop (Loop.atReady r)))) ∨ (e = .ret ∧ R2 (W3.putObj L (.loop (Loop.atLeft r)))))) a' (Wa.putObj L (.loop (Loop.atBusy r)))) (fun _ _ _ => False))
      { tmps := (r.params.zip args).foldl (fun t (p, v) => t.setIfInBounds p v) r.tmps, defers := [] } W) :
    YieldAt F n P L args W (fun e W' => (e = .returned (.bool true) ∧ R W') ∨ (e = .returned (.bool false) ∧ R2 W')) := by
  refine ⟨r.fn, _, r.assign, r.body, run_yield (r := Loop.atReady r) hR hps, roundIn_of_wpIn hF (wpIn_mono h ?_)⟩
  intro e a Wa hp
  cases e with
  | normal =>
    obtain ⟨hr, hb⟩ := hp
    refine ⟨_, run_beginRound (r := Loop.atReady r) hr rfl, wpIn_mono hb ?_⟩
    rintro e a3 W3 ⟨hl, ⟨rfl, hR3⟩ | ⟨rfl, hR3⟩⟩
    · exact ⟨_, _, run_endRound (r := Loop.atBusy r) none hl, .inl ⟨rfl, hR3⟩⟩
    · exact ⟨_, _, run_endRound (r := Loop.atBusy r) (some .ret) hl, .inr ⟨rfl, hR3⟩⟩
  | _ => exact hp.elim

theorem wpIn_rangeFunc_or {n : Nat} {P : Program} {g : Operand} {ps : Array Tmp} {assign body : Code} {Q : Exit → Act → World → Prop} {a : Act} {w : World} {gf : Nat} {lb : Array Value}
    (hg : a.eval g = .func (.func gf) #[] lb) (eg : ∀ args w, (callFunc gf args).run P w = .ok (.enter gf args) w) {Z Z2 : World → Prop}
    (h : ∀ (r : Loop) (W : World), r.tmps = a.tmps → r.params = ps → r.assign = assign → r.body = body → LoopReady r w.heap.size (w.heap.size + 1) W → Below w.heap.size w W → W.heap.size = w.heap.size + 2 →
      CallsIn Fence.wide (n - 1) P gf (#[.func (.yield (w.heap.size + 1)) #[] #[]] ++ lb) W (fun e W2 => (∃ v, e = .returned v) ∧ ((LoopReady r w.heap.size (w.heap.size + 1) W2 ∧ Z W2) ∨ (W2.heap[w.heap.size + 1]? = some (.loop (Loop.atLeft r)) ∧ Z2 W2))))
    (hdone : ∀ (r : Loop) (W : World), LoopReady r w.heap.size (w.heap.size + 1) W → Z W → Q .normal { a with defers := { target := .collected w.heap.size, args := #[] } :: a.defers } (W.putObj (w.heap.size + 1) (.loop (Loop.atEnd r))))
    (hleft : ∀ (r : Loop) (W : World), W.heap[w.heap.size + 1]? = some (.loop (Loop.atLeft r)) → Z2 W → Code.ret.wpIn Fence.wide n P Q { a with defers := { target := .collected w.heap.size, args := #[] } :: a.defers } (W.putObj (w.heap.size + 1) (.loop (Loop.atOut r)))) :
    (Code.rangeFunc g ps assign body).wpIn Fence.wide n P Q a w := by
  refine wpIn_rangeFunc ?_
  intro fn hfn
  rw [show Fence.wide.round = none from rfl]
  obtain ⟨r, hr⟩ : ∃ r : Loop, r = { state := .ready, pending := none, fn, tmps := a.tmps, params := ps, assign, body, defers := w.heap.size } := ⟨_, rfl⟩
  have hrr : Loop.atReady r = { state := .ready, pending := none, fn, tmps := a.tmps, params := ps, assign, body, defers := w.heap.size } := by rw [hr]; rfl
  obtain ⟨W1, hW1⟩ : ∃ W1, (w.alloc (.deferred (some []))).alloc (.loop (Loop.atReady r)) = W1 := ⟨_, rfl⟩
  have hL1 : W1.heap[w.heap.size + 1]? = some (.loop (Loop.atReady r)) := by
    rw [← hW1]; have := World.alloc_heap_new (w.alloc (.deferred (some []))) (.loop (Loop.atReady r)); rwa [World.size_alloc] at this
  have hK1 : W1.heap[w.heap.size]? = some (.deferred (some [])) := by
    rw [← hW1]; exact (Below.heap_alloc _ _ _ (by simp)).trans (World.alloc_heap_new w _)
  have hb1 : Below w.heap.size w W1 := by
    rw [← hW1]; exact ((Below.refl _ w).alloc (Nat.le_refl _) _).alloc (by simp) _
  refine ⟨w.heap.size + 1, [{ target := .collected w.heap.size, args := #[] }], W1, { target := .fn (.func gf) lb, args := #[.func (.yield (w.heap.size + 1)) #[] #[]] }, W1, gf,
    #[.func (.yield (w.heap.size + 1)) #[] #[]] ++ lb, W1, ?_, ?_, ?_, ?_, fun h => (by cases h), ?_⟩
  · rw [← hW1, hrr]; exact run_enterLoop_outer _ _ _ _ _
  · simp only [resolve, hg]
    simp [go_sem]
  · intro f' hf'; trivial
  · simp [invoke, go_sem, eg]
  · refine (h r W1 (by rw [hr]) (by rw [hr]) (by rw [hr]) (by rw [hr]) ⟨hL1, hK1⟩ hb1 (by rw [← hW1]; simp)).mono ?_
    rintro e W2 ⟨⟨v, rfl⟩, ⟨hR, hZ⟩ | ⟨hR, hZ⟩⟩
    · exact ⟨none, _, run_endLoop (r := Loop.atReady r) hR.made (by intro hh; cases hh), hdone r W2 hR hZ⟩
    · exact ⟨some .ret, _, run_endLoop (r := Loop.atLeft r) hR (by intro hh; cases hh), hleft r W2 hR hZ⟩
end Go.Proofs.Ytjmnbbflahacoaa.Mem
