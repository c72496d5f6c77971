/- A range over a function whose body always goes on: the statement, and a round. No condition. -/
import Derived.Test.YtjmnbbflahacoaaMem
import Derived.RangeFuncNested
import Derived.RangeFuncBound
import Derived.RangeFuncCalls
import Derived.RangeFuncLeaves
namespace Go.Proofs.Ytjmnbbflahacoaa.Mem
open Go.RowKit
set_option linter.unusedVariables false
set_option linter.unusedSimpArgs false

/-- A loop's record, ready; busy; used up. -/
def Loop.atReady (r : Loop) : Loop := { r with state := .ready, pending := none }
def Loop.atBusy (r : Loop) : Loop := { r with state := .busy, pending := none }
def Loop.atEnd (r : Loop) : Loop := { r with state := .exhausted, pending := none }

/-- The loop's two blocks stand: its record is ready, no call is deferred. -/
structure LoopReady (r : Loop) (D L : Nat) (W : World) : Prop where
  made : W.heap[L]? = some (.loop (Loop.atReady r))
  calls : W.heap[D]? = some (.deferred (some []))

theorem yieldAt_of {F : Fence} {n : Nat} {P : Program} {L : Nat} {r : Loop} {args : Array Value} {W : World} {R : World → Prop} (hF : F.fn r.fn) (hR : W.heap[L]? = some (.loop (Loop.atReady r))) (hps : args.size = r.params.size)
    (h : r.assign.wpIn (F.inRound L) n P (Exit.then (fun a' Wa => Wa.heap[L]? = some (.loop (Loop.atReady r)) ∧ r.body.wpIn (F.inRound L) n P (fun e _ W3 => e = .normal ∧ W3.heap[L]? = some (.loop (Loop.atBusy r)) ∧ R (W3.putObj L (.loop (Loop.atReady r)))) a' (Wa.putObj L (.loop (Loop.atBusy r)))) (fun _ _ _ => False))
      { tmps := (r.params.zip args).foldl (fun t (p, v) => t.setIfInBounds p v) r.tmps, defers := [] } W) :
    YieldAt F n P L args W (fun e W' => e = .returned (.bool true) ∧ R W') := by
  refine ⟨r.fn, _, r.assign, r.body, run_yield (r := Loop.atReady r) hR hps, roundIn_of_wpIn hF (wpIn_mono h ?_)⟩
  intro e a Wa hp
  cases e with
  | normal =>
    obtain ⟨hr, hb⟩ := hp
    refine ⟨_, run_beginRound (r := Loop.atReady r) hr rfl, wpIn_mono hb ?_⟩
    rintro e a3 W3 ⟨rfl, hl, hR3⟩
    exact ⟨_, _, run_endRound (r := Loop.atBusy r) none hl, rfl, hR3⟩
  | _ => exact hp.elim

theorem wpIn_rangeFunc_all {F : Fence} {n : Nat} {P : Program} {g : Operand} {ps : Array Tmp} {assign body : Code} {Q : Exit → Act → World → Prop} {a : Act} {w : World} (hro : F.round = none) (h1 : 1 ≤ n) {gf : Nat} {lb : Array Value}
    (hg : a.eval g = .func (.func gf) #[] lb) (hFg : F.fn gf) (eg : ∀ args w, (callFunc gf args).run P w = .ok (.enter gf args) w) {Z : World → Prop}
    (h : ∀ (r : Loop) (W : World), F.fn r.fn → r.tmps = a.tmps → r.params = ps → r.assign = assign → r.body = body → LoopReady r w.heap.size (w.heap.size + 1) W → Below w.heap.size w W → W.heap.size = w.heap.size + 2 →
      CallsIn F (n - 1) P gf (#[.func (.yield (w.heap.size + 1)) #[] #[]] ++ lb) W (fun e W2 => (∃ v, e = .returned v) ∧ LoopReady r w.heap.size (w.heap.size + 1) W2 ∧ Z W2))
    (hdone : ∀ (r : Loop) (W : World), LoopReady r w.heap.size (w.heap.size + 1) W → Z W → Q .normal { a with defers := { target := .collected w.heap.size, args := #[] } :: a.defers } (W.putObj (w.heap.size + 1) (.loop (Loop.atEnd r)))) :
    (Code.rangeFunc g ps assign body).wpIn F n P Q a w := by
  refine wpIn_rangeFunc ?_
  intro fn hfn
  rw [hro]
  obtain ⟨r, hr⟩ : ∃ r : Loop, r = { state := .ready, pending := none, fn, tmps := a.tmps, params := ps, assign, body, defers := w.heap.size } := ⟨_, rfl⟩
  have hrr : Loop.atReady r = { state := .ready, pending := none, fn, tmps := a.tmps, params := ps, assign, body, defers := w.heap.size } := by rw [hr]; rfl
  obtain ⟨W1, hW1⟩ : ∃ W1, (w.alloc (.deferred (some []))).alloc (.loop (Loop.atReady r)) = W1 := ⟨_, rfl⟩
  have hL1 : W1.heap[w.heap.size + 1]? = some (.loop (Loop.atReady r)) := by
    rw [← hW1]; have := World.alloc_heap_new (w.alloc (.deferred (some []))) (.loop (Loop.atReady r)); rwa [World.size_alloc] at this
  have hK1 : W1.heap[w.heap.size]? = some (.deferred (some [])) := by
    rw [← hW1]; exact (Below.heap_alloc _ _ _ (by simp)).trans (World.alloc_heap_new w _)
  have hb1 : Below w.heap.size w W1 := by
    rw [← hW1]; exact ((Below.refl _ w).alloc (Nat.le_refl _) _).alloc (by simp) _
  refine ⟨w.heap.size + 1, [{ target := .collected w.heap.size, args := #[] }], W1, { target := .fn (.func gf) lb, args := #[.func (.yield (w.heap.size + 1)) #[] #[]] }, W1, gf,
    #[.func (.yield (w.heap.size + 1)) #[] #[]] ++ lb, W1, ?_, ?_, ?_, ?_, fun _ => h1, ?_⟩
  · rw [← hW1, hrr]; exact run_enterLoop_outer _ _ _ _ _
  · simp only [resolve, hg]
    simp [go_sem]
  · intro f' hf'; simp [Target.leads] at hf'; subst hf'; exact hFg
  · simp [invoke, go_sem, eg]
  · refine (h r W1 (by rw [hr]; exact hfn) (by rw [hr]) (by rw [hr]) (by rw [hr]) (by rw [hr]) ⟨hL1, hK1⟩ hb1 (by rw [← hW1]; simp)).mono ?_
    rintro e W2 ⟨⟨v, rfl⟩, hR, hZ⟩
    exact ⟨none, _, run_endLoop (r := Loop.atReady r) hR.made (by intro hh; cases hh), hdone r W2 hR hZ⟩
end Go.Proofs.Ytjmnbbflahacoaa.Mem
