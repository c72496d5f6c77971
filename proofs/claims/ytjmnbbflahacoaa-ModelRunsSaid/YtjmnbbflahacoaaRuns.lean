/- model: Runs, walked. No condition. -/
import Derived.Test.YtjmnbbflahacoaaRunIt
import Derived.Test.YtjmnbbflahacoaaAlone
import Derived.Test.YtjmnbbflahacoaaRel
namespace Go.Proofs.Ytjmnbbflahacoaa.Lang
open Go.RowKit Go.ChangeMaps Go.Maps Go.Proofs.Ytjmnbbflahacoaa.Mem Go.Proofs.Ytjmnbbflahacoaa.Hist Go.Proofs.Ytjmnbbflahacoaa.Model Go.Proofs.Ytjmnbbflahacoaa.PHistTells Go.Proofs.YtjmnbbflahacoaaW.PrintWords
set_option linter.unusedVariables false
set_option linter.unusedSimpArgs false
attribute [local go_sem] Oper.semAt_some

theorem row_at {w : World} {A : Option Addr} {ss : List (List (List Op))} (h : Kd.C (Kd.slice 103 kT) w A ss.length ss) (k : Nat) (hk : k < ss.length) : ∃ ad Ak ck, A = some ad ∧ w.cell? (ad.add k) = some (.slice Ak ss[k].length ck) ∧ ss[k].length ≤ ck ∧ kT.C w Ak ss[k].length ss[k] := by
  obtain ⟨ad, c, e, _, hK, hc0⟩ := Kd.C_get h [] (k : Int) (by omega) (by omega)
  have hx : ss.getD (k : Int).toNat [] = ss[k] := by simp [List.getD, hk]
  rw [hx] at hK
  obtain ⟨Ak, ck, rfl, hl, hC⟩ := hK
  have := hc0 0 _ rfl
  have e1 : (k : Int).toNat * (Kd.slice 103 kT).sz + 0 = k := by show (k : Int).toNat * 1 + 0 = k; omega
  rw [e1] at this
  exact ⟨ad, Ak, ck, e, this, hl, hC⟩
theorem ops_at {w : World} {A : Option Addr} {ss : List (List Op)} (h : kT.C w A ss.length ss) (k : Nat) (hk : k < ss.length) : ∃ ad Ak ck, A = some ad ∧ w.cell? (ad.add k) = some (.slice Ak ss[k].length ck) ∧ ss[k].length ≤ ck ∧ kOp.C w Ak ss[k].length ss[k] := by
  obtain ⟨ad, c, e, _, hK, hc0⟩ := Kd.C_get h [] (k : Int) (by omega) (by omega)
  have hx : ss.getD (k : Int).toNat [] = ss[k] := by simp [List.getD, hk]
  rw [hx] at hK
  obtain ⟨Ak, ck, rfl, hl, hC⟩ := hK
  have := hc0 0 _ rfl
  have e1 : (k : Int).toNat * kT.sz + 0 = k := by show (k : Int).toNat * 1 + 0 = k; omega
  rw [e1] at this
  exact ⟨ad, Ak, ck, e, this, hl, hC⟩

/-- Is a try's place among the transactions? -/
def inAll (all : List (List (List Op))) (t : Tr) : Bool := (decide (0 ≤ t.f0) && decide (t.f0 < (all.length : Int))) && (decide (0 ≤ t.f1) && decide (t.f1 < ((all.getD t.f0.toNat []).length : Int)))
def opsOf (all : List (List (List Op))) (t : Tr) : List Op := (all.getD t.f0.toNat []).getD t.f1.toNat []
/-- The i-th try makes of the values what its transaction makes of them alone. -/
def okRun (first : List Int) (l : List Ev) (all : List (List (List Op))) (i : Nat) (t : Tr) : Bool :=
  (inAll all t && !l.any (relB t)) && (rightO (opsOf all t) first.length && decide (aloneM (opsOf all t) (foldM first ((commitsM l).take i)) = foldM first ((commitsM l).take (i + 1))))
def okAt (first : List Int) (l : List Ev) (all : List (List (List Op))) (i : Nat) : Bool := match (commitsM l)[i]? with
  | some t => okRun first l all i t
  | none => true
def runsTo (first : List Int) (l : List Ev) (all : List (List (List Op))) (k : Nat) : Bool := (List.range k).all (okAt first l all)
/-- What model.Runs answers. -/
def runsM (first : List Int) (l : List Ev) (all : List (List (List Op))) : Bool := rightM l && runsTo first l all (commitsM l).length
theorem runsTo_next (first : List Int) (l : List Ev) (all : List (List (List Op))) {k : Nat} {t : Tr} (h : (commitsM l)[k]? = some t) : runsTo first l all (k + 1) = (runsTo first l all k && okRun first l all k t) := by
  unfold runsTo
  rw [List.range_succ, List.all_append]
  simp [okAt, h]
theorem runsTo_bad (first : List Int) (l : List Ev) (all : List (List (List Op))) {k : Nat} {t : Tr} (h : (commitsM l)[k]? = some t) (hf : okRun first l all k t = false) : runsTo first l all (commitsM l).length = false := by
  unfold runsTo
  rw [List.all_eq_false]
  refine ⟨k, List.mem_range.2 ?_, ?_⟩
  · exact (List.getElem?_eq_some_iff.1 h).1
  · simp [okAt, h, hf]

theorem results_cell {P : Program} {fn : Func} {a t : Nat} (h : fn.results = #[.cell a t]) {tmps : Array Value} {w : World} {p : Addr} {v : Value} (ha : tmps.getD a undef = .pointer (some p)) (hl : (loadVar t p).run P w = .ok v w) : (results fn tmps).run P w = .ok v w := by
  have ha' : tmps[a]?.getD undef = .pointer (some p) := by simpa using ha
  simp [results, h, ha', asAddr, hl]
theorem load_bool {w : World} {b : Nat} {r : Bool} (h : w.cell? ⟨b, 0, none⟩ = some (.bool r)) : (loadVar 4 ⟨b, 0, none⟩).run Try.prog w = .ok (.bool r) w := by
  go_simp
/-- The three boxes. -/
structure RunsAt (w W : World) (A : Option Addr) (n c : Nat) (B : Option Addr) (m cb : Nat) (r : Bool) : Prop where
  l : Blk W w.heap.size 22 [.slice A n c]
  all : Blk W (w.heap.size + 1) 62 [.slice B m cb]
  res : Blk W (w.heap.size + 1 + 1) 4 [.bool r]
  below : Below w.heap.size w W
theorem runs_start (w : World) (A : Option Addr) (n c : Nat) (B : Option Addr) (m cb : Nat) : RunsAt w (((w.alloc (.cells #[.slice A n c] 22)).alloc (.cells #[.slice B m cb] 62)).alloc (.cells #[.bool false] 4)) A n c B m cb false := by
  have h1 := Blk.new w #[.slice A n c] 22
  have h2 := Blk.new (w.alloc (.cells #[.slice A n c] 22)) #[.slice B m cb] 62
  have h3 := Blk.new ((w.alloc (.cells #[.slice A n c] 22)).alloc (.cells #[.slice B m cb] 62)) #[.bool false] 4
  rw [World.size_alloc] at h2
  rw [World.size_alloc, World.size_alloc] at h3
  exact ⟨(h1.alloc _).alloc _, h2.alloc _, h3, (((Below.refl _ w).alloc (Nat.le_refl _) _).alloc (by simp) _).alloc (by simp; omega) _⟩
theorem RunsAt.step {w W W' : World} {A B : Option Addr} {n c m cb : Nat} {r : Bool} (h : RunsAt w W A n c B m cb r) (hb : Below W.heap.size W W') : RunsAt w W' A n c B m cb r :=
  ⟨h.l.below hb h.l.lt, h.all.below hb h.all.lt, h.res.below hb h.res.lt, below_of h.below hb⟩
theorem RunsAt.turn {w W : World} {A B : Option Addr} {n c m cb : Nat} {r : Bool} (h : RunsAt w W A n c B m cb r) (r' : Bool) : RunsAt w (W.setCell ⟨w.heap.size + 1 + 1, 0, none⟩ (.bool r')) A n c B m cb r' :=
  ⟨h.l.far (p := ⟨w.heap.size + 1 + 1, 0, none⟩) (by show w.heap.size ≠ w.heap.size + 1 + 1; omega) _, h.all.far (p := ⟨w.heap.size + 1 + 1, 0, none⟩) (by show w.heap.size + 1 ≠ w.heap.size + 1 + 1; omega) _, h.res.set 0 _, h.below.setCell (p := ⟨w.heap.size + 1 + 1, 0, none⟩) (by show w.heap.size ≤ w.heap.size + 1 + 1; omega) _⟩

theorem Below.put' {B : Nat} {a W : World} (h : Below B a W) {L : Nat} (hL : B ≤ L) (o : Obj) : Below B a (W.putObj L o) :=
  ⟨h.os, h.tape, h.output, by have := h.size; simpa using this, fun k hk => (World.putObj_heap_other (by omega)).trans (h.block k hk)⟩
theorem RunsAt.put {w W : World} {A B : Option Addr} {n c m cb : Nat} {r : Bool} (h : RunsAt w W A n c B m cb r) {L : Nat} {q : Loop} (hl : W.heap[L]? = some (.loop q)) (hL : w.heap.size ≤ L) (o : Obj) : RunsAt w (W.putObj L o) A n c B m cb r :=
  ⟨blk_loop h.l hl o, blk_loop h.all hl o, blk_loop h.res hl o, Below.put' h.below hL o⟩
theorem RunsAt.far {w W : World} {A B : Option Addr} {n c m cb : Nat} {r : Bool} (h : RunsAt w W A n c B m cb r) {b : Nat} (hb : w.heap.size + 3 ≤ b) (v : Value) : RunsAt w (W.setCell ⟨b, 0, none⟩ v) A n c B m cb r :=
  ⟨h.l.far (p := ⟨b, 0, none⟩) (by show w.heap.size ≠ b; omega) _, h.all.far (p := ⟨b, 0, none⟩) (by show w.heap.size + 1 ≠ b; omega) _, h.res.far (p := ⟨b, 0, none⟩) (by show w.heap.size + 1 + 1 ≠ b; omega) _, h.below.setCell (p := ⟨b, 0, none⟩) (by show w.heap.size ≤ b; omega) _⟩
theorem blk_defer {W : World} {b T : Nat} {cs : List Value} (h : Blk W b T cs) {D : Nat} {ds : Option (List Deferred)} (hl : W.heap[D]? = some (.deferred ds)) (o : Obj) : Blk (W.putObj D o) b T cs :=
  (World.putObj_heap_other (fun e => by unfold Blk at h; rw [e, hl] at h; cases h)).trans h
theorem RunsAt.putD {w W : World} {A B : Option Addr} {n c m cb : Nat} {r : Bool} (h : RunsAt w W A n c B m cb r) {D : Nat} {ds : Option (List Deferred)} (hl : W.heap[D]? = some (.deferred ds)) (hD : w.heap.size ≤ D) (o : Obj) : RunsAt w (W.putObj D o) A n c B m cb r :=
  ⟨blk_defer h.l hl o, blk_defer h.all hl o, blk_defer h.res hl o, Below.put' h.below hD o⟩
/-- A row that stands from the start, or is ours. -/
def Good (w W : World) (Aa : Option Addr) (ca : Nat) (xs : List Int) : Prop := kI.R 2 W w.heap.size (fun _ => True) (.slice Aa xs.length ca) xs ∨ kI.C w Aa xs.length xs
theorem Good.read {w W : World} {Aa : Option Addr} {ca : Nat} {xs : List Int} (h : Good w W Aa ca xs) (hb : Below w.heap.size w W) : kI.C W Aa xs.length xs := by
  rcases h with h | h
  · exact (Kd.R_reads' h).2.2
  · exact Kd.C_below h hb
theorem Good.step {w W W' : World} {Aa : Option Addr} {ca : Nat} {xs : List Int} (h : Good w W Aa ca xs) (hb : Below W.heap.size W W') : Good w W' Aa ca xs := by
  rcases h with h | h
  · exact .inl (Kd.R_below h hb)
  · exact .inr h
theorem Good.put {w W : World} {Aa : Option Addr} {ca : Nat} {xs : List Int} (h : Good w W Aa ca xs) {L : Nat} {q : Loop} (hl : W.heap[L]? = some (.loop q)) (o : Obj) : Good w (W.putObj L o) Aa ca xs := by
  rcases h with h | h
  · exact .inl (R_loop h hl o)
  · exact .inr h
/-- What stands between the rounds. -/
structure RunJ (w W : World) (A : Option Addr) (n c : Nat) (B : Option Addr) (m cb : Nat) (r : Loop) (D L b : Nat) (xs : List Int) : Prop where
  box : RunsAt w W A n c B m cb false
  at_ : ∃ Aa ca, Blk W b 47 [.slice Aa xs.length ca] ∧ Good w W Aa ca xs
  loop : LoopReady r D L W
  lowb : w.heap.size + 3 ≤ b
  lowD : w.heap.size ≤ D
  lowL : w.heap.size ≤ L
theorem RunJ.step {w W W' : World} {A B : Option Addr} {n c m cb : Nat} {r : Loop} {D L b : Nat} {xs : List Int} (h : RunJ w W A n c B m cb r D L b xs) (hb : Below W.heap.size W W') : RunJ w W' A n c B m cb r D L b xs :=
  let ⟨Aa, ca, h1, h2⟩ := h.at_
  ⟨h.box.step hb, ⟨Aa, ca, h1.below hb h1.lt, h2.step hb⟩, ⟨(hb.block L (Array.getElem?_eq_some_iff.1 h.loop.made).1).trans h.loop.made, (hb.block D (Array.getElem?_eq_some_iff.1 h.loop.calls).1).trans h.loop.calls⟩, h.lowb, h.lowD, h.lowL⟩
theorem RunJ.ne {w W : World} {A B : Option Addr} {n c m cb : Nat} {r : Loop} {D L b : Nat} {xs : List Int} (h : RunJ w W A n c B m cb r D L b xs) : D ≠ L := fun he => by have := h.loop.made; rw [← he, h.loop.calls] at this; cases this
/-- What stands within a round. -/
structure RunB (w X W : World) (A : Option Addr) (n c : Nat) (B : Option Addr) (m cb : Nat) (r : Loop) (D L b : Nat) (xs : List Int) (t : Tr) (row : Value) (ys : List Int) (v : Value) : Prop where
  box : RunsAt w W A n c B m cb false
  at_ : ∃ Aa ca, Blk W b 47 [.slice Aa xs.length ca] ∧ Good w W Aa ca xs
  busy : W.heap[L]? = some (.loop (Loop.atBusy r))
  calls : W.heap[D]? = some (.deferred (some []))
  t : Blk W X.heap.size 29 (trC t row)
  row : kI.R 2 W w.heap.size (fun _ => True) v ys
  old : ∀ k, k < X.heap.size → k ≠ L → W.heap[k]? = X.heap[k]?
  size : X.heap.size < W.heap.size
theorem RunJ.begin {w X : World} {A B : Option Addr} {n c m cb : Nat} {r : Loop} {D L b : Nat} {xs : List Int} (h : RunJ w X A n c B m cb r D L b xs) (t : Tr) (row : Value) {ys : List Int} {v : Value} (hv : kI.R 2 X w.heap.size (fun _ => True) v ys) :
    RunB w X ((X.alloc (.cells (trC t row).toArray 29)).putObj L (.loop (Loop.atBusy r))) A n c B m cb r D L b xs t row ys v := by
  have hb : Below X.heap.size X (X.alloc (.cells (trC t row).toArray 29)) := (Below.refl _ _).alloc (Nat.le_refl _) _
  have h1 := h.step hb
  have hn := h.ne
  have hlt := (Array.getElem?_eq_some_iff.1 h1.loop.made).1
  obtain ⟨Aa, ca, h2, h3⟩ := h1.at_
  exact ⟨h1.box.put h1.loop.made h.lowL _, ⟨Aa, ca, blk_loop h2 h1.loop.made _, h3.put h1.loop.made _⟩, World.putObj_heap_same hlt, (World.putObj_heap_other hn).trans h1.loop.calls, blk_loop (by have := Blk.new X (trC t row).toArray 29; simpa using this) h1.loop.made _, R_loop (Kd.R_below hv hb) h1.loop.made _,
    fun k hk hn => (World.putObj_heap_other hn).trans (hb.block k hk), by simp⟩
theorem RunB.step {w X W W' : World} {A B : Option Addr} {n c m cb : Nat} {r : Loop} {D L b : Nat} {xs ys : List Int} {t : Tr} {row v : Value} (h : RunB w X W A n c B m cb r D L b xs t row ys v) (hb : Below W.heap.size W W') : RunB w X W' A n c B m cb r D L b xs t row ys v :=
  let ⟨Aa, ca, h1, h2⟩ := h.at_
  ⟨h.box.step hb, ⟨Aa, ca, h1.below hb h1.lt, h2.step hb⟩, (hb.block L (Array.getElem?_eq_some_iff.1 h.busy).1).trans h.busy, (hb.block D (Array.getElem?_eq_some_iff.1 h.calls).1).trans h.calls, h.t.below hb h.t.lt, Kd.R_below h.row hb,
    fun k hk hn => (hb.block k (Nat.lt_trans hk h.size)).trans (h.old k hk hn), Nat.lt_of_lt_of_le h.size hb.size⟩
theorem RunB.neL {w X W : World} {A B : Option Addr} {n c m cb : Nat} {r : Loop} {D L b : Nat} {xs ys : List Int} {t : Tr} {row v : Value} (h : RunB w X W A n c B m cb r D L b xs t row ys v) {k T : Nat} {cs : List Value} (hk : Blk W k T cs) : L ≠ k ∧ D ≠ k :=
  ⟨(fun he => by unfold Blk at hk; rw [← he, h.busy] at hk; cases hk), (fun he => by unfold Blk at hk; rw [← he, h.calls] at hk; cases hk)⟩
/-- A round that goes on. -/
theorem RunB.next {w X W : World} {A B : Option Addr} {n c m cb : Nat} {r : Loop} {D L b : Nat} {xs ys : List Int} {t : Tr} {row : Value} {Av : Option Addr} {cv : Nat} (hJ : RunJ w X A n c B m cb r D L b xs) (h : RunB w X W A n c B m cb r D L b xs t row ys (.slice Av ys.length cv)) :
    (W.setCell ⟨b, 0, none⟩ (.slice Av ys.length cv)).heap[L]? = some (.loop (Loop.atBusy r)) ∧ RunJ w ((W.setCell ⟨b, 0, none⟩ (.slice Av ys.length cv)).putObj L (.loop (Loop.atReady r))) A n c B m cb r D L b ys ∧ KeepsT X ((W.setCell ⟨b, 0, none⟩ (.slice Av ys.length cv)).putObj L (.loop (Loop.atReady r))) := by
  obtain ⟨Aa, ca, h1, h2⟩ := h.at_
  obtain ⟨hLb, hDb⟩ := h.neL h1
  have hn := hJ.ne
  have hL4 : (W.setCell ⟨b, 0, none⟩ (.slice Av ys.length cv)).heap[L]? = some (.loop (Loop.atBusy r)) := (Below.heap_setCell W _ _ L hLb).trans h.busy
  have hD4 : (W.setCell ⟨b, 0, none⟩ (.slice Av ys.length cv)).heap[D]? = some (.deferred (some [])) := (Below.heap_setCell W _ _ D hDb).trans h.calls
  have hR := R_loop (Kd.R_set h.row h1 (by decide) 0 (.slice Av ys.length cv)) hL4 (.loop (Loop.atReady r))
  refine ⟨hL4, ⟨(h.box.far hJ.lowb _).put hL4 hJ.lowL _, ⟨Av, cv, blk_loop (h1.set 0 _) hL4 _, .inl hR⟩, ⟨World.putObj_heap_same (Array.getElem?_eq_some_iff.1 hL4).1, (World.putObj_heap_other hn).trans hD4⟩, hJ.lowb, hJ.lowD, hJ.lowL⟩, ⟨fun k T hk hT => ?_, ?_⟩⟩
  · have hkt := typed_lt hk
    obtain ⟨cc, hc⟩ := hk
    have hkL : k ≠ L := fun he => by rw [he, hJ.loop.made] at hc; cases hc
    have hkb : k ≠ b := fun he => by
      have h5 := (h.old k hkt hkL).trans hc
      rw [he] at h5
      unfold Blk at h1
      rw [h1] at h5
      injection h5 with h5
      injection h5 with _ h5 _
      rcases hT with rfl | rfl | rfl <;> exact absurd h5 (by decide)
    exact (World.putObj_heap_other hkL).trans ((Below.heap_setCell W _ _ k hkb).trans (h.old k hkt hkL))
  · have := h.size
    have hsz : (W.setCell ⟨b, 0, none⟩ (.slice Av ys.length cv)).heap.size = W.heap.size := by simp [World.setCell]
    simp only [World.putObj_size]
    rw [hsz]
    omega
/-- What stands where a round has left. -/
structure RunZ (w W : World) (A : Option Addr) (n c : Nat) (B : Option Addr) (m cb : Nat) (r : Loop) (D L : Nat) : Prop where
  box : RunsAt w W A n c B m cb false
  left : W.heap[L]? = some (.loop (Loop.atLeft r))
  calls : W.heap[D]? = some (.deferred (some []))
theorem RunB.leave {w X W : World} {A B : Option Addr} {n c m cb : Nat} {r : Loop} {D L b : Nat} {xs ys : List Int} {t : Tr} {row v : Value} (hJ : RunJ w X A n c B m cb r D L b xs) (h : RunB w X W A n c B m cb r D L b xs t row ys v) :
    (W.setCell ⟨w.heap.size + 1 + 1, 0, none⟩ (.bool false)).heap[L]? = some (.loop (Loop.atBusy r)) ∧ RunZ w ((W.setCell ⟨w.heap.size + 1 + 1, 0, none⟩ (.bool false)).putObj L (.loop (Loop.atLeft r))) A n c B m cb r D L := by
  obtain ⟨hLb, hDb⟩ := h.neL h.box.res
  have hL4 : (W.setCell ⟨w.heap.size + 1 + 1, 0, none⟩ (.bool false)).heap[L]? = some (.loop (Loop.atBusy r)) := (Below.heap_setCell W _ _ L hLb).trans h.busy
  have hD4 : (W.setCell ⟨w.heap.size + 1 + 1, 0, none⟩ (.bool false)).heap[D]? = some (.deferred (some [])) := (Below.heap_setCell W _ _ D hDb).trans h.calls
  exact ⟨hL4, (h.box.turn false).put hL4 hJ.lowL _, World.putObj_heap_same (Array.getElem?_eq_some_iff.1 hL4).1, (World.putObj_heap_other hJ.ne).trans hD4⟩

set_option maxHeartbeats 8000000 in
set_option maxRecDepth 100000 in
theorem runs_any (w : World) (A : Option Addr) (c : Nat) (l : List Ev) (Av : Option Addr) (cv : Nat) (first : List Int) (B : Option Addr) (cb : Nat) (all : List (List (List Op))) (hC : kEv.C w A l.length l) (hl : l.length ≤ 1000000) (hok : ∀ e ∈ l, EvOk e) (hF : kI.C w Av first.length first) (hfl : first.length ≤ 1000000) (hacc : ∀ t ∈ commitsM l, t.f8.length ≤ 1000000)
    (hB : kA.C w B all.length all) (hal : all.length ≤ 1000000) (hal1 : ∀ a ∈ all, a.length ≤ 1000000) (hal2 : ∀ a ∈ all, ∀ b ∈ a, b.length ≤ 1000000 ∧ ∀ o ∈ b, (Lit.int .i64 o.f0).wf = true) :
    Calls Try.prog 41 #[.slice Av first.length cv, .slice A l.length c, .slice B all.length cb] w
      fun e W' => e = .returned (.bool (runsM first l all)) ∧ Below w.heap.size w W' := by
  have HC := Veil.mk hC
  have HL := Veil.mk hl
  have HO := Veil.mk hok
  have HF := Veil.mk hF
  have HFL := Veil.mk hfl
  have HAC := Veil.mk hacc
  have HBB := Veil.mk hB
  have HAL := Veil.mk (And.intro hal (And.intro hal1 hal2))
  clear hC hl hok hF hfl hacc hB hal hal1 hal2
  refine (callsIn_wide (n := 6)).1 ?_
  refine callsIn_of_wp_marks Try.func41 rfl trivial ?_ rfl
  simp only [Try.ntmps41, List.size_toArray, List.length_cons, List.length_nil, Nat.reduceAdd, Nat.reduceSub, Array.replicate_succ, Array.replicate_zero, List.push_toArray, List.append_toArray, List.nil_append, List.cons_append]
  have HR := Veil.mk (Hist.right_any (((w.alloc (.cells #[.slice A l.length c] 22)).alloc (.cells #[.slice B all.length cb] 62)).alloc (.cells #[.bool false] 4)) A c l (Kd.C_below HC.out ((((Below.refl _ w).alloc (Nat.le_refl _) _).alloc (by simp) _).alloc (by simp; omega) _)) (by have := HL.out; omega) HO.out)
  have HS := Veil.mk (runs_start w A l.length c B all.length cb)
  have HM : Veil (runsM first l all = (rightM l && runsTo first l all (commitsM l).length)) := ⟨rfl⟩
  obtain ⟨rr, hrr⟩ : ∃ rr, rightM l = rr := ⟨_, rfl⟩
  rw [hrr] at HR HM
  clear hrr
  cases rr with
  | false =>
    gi_wp2_with (first | (refine ⟨trivial, ?_⟩; gi_at_call 20; refine (callsIn_wide.2 HR.out).mono ?_; rintro e w4 ⟨rfl, hb⟩; have HS4 := Veil.mk (HS.out.step hb); have r0 := HS4.out.res.cell 0 _ rfl; have f0 := HS4.out.res.free 0; clear hb))
    have HT := Veil.mk (HS4.out.turn false)
    exact ⟨_, results_cell rfl rfl (load_bool (HT.out.res.cell 0 _ rfl)), by rw [HM.out]; rfl, HT.out.below⟩
  | true =>
    gi_wp2_with (first | (refine ⟨trivial, ?_⟩; gi_at_call 20; refine (callsIn_wide.2 HR.out).mono ?_; rintro e w4 ⟨rfl, hb⟩; have HS4 := Veil.mk (HS.out.step hb); have b0 := alloc_cell (HS4.out.l.cell 0 _ rfl); clear hb) | (refine ⟨trivial, ?_⟩; gi_at_call 64; refine (callsIn_wide.2 (statesf_any _ Av first.length cv A l.length c)).mono ?_; rintro e w5 ⟨rfl, rfl⟩))
    have hw4 : w.heap.size + 3 ≤ w4.heap.size := by have := HS4.out.res.lt; omega
    have HN5 : Veil (Below w4.heap.size w4 (((w4.alloc (.cells #[.slice Av first.length cv] 47)).alloc (.cells #[.slice Av first.length cv] 47)).alloc (.cells #[.slice A l.length c] 22))) := ⟨(((Below.refl _ _).alloc (Nat.le_refl _) _).alloc (by simp) _).alloc (by simp; omega) _⟩
    have HX5 : Veil (Blk (((w4.alloc (.cells #[.slice Av first.length cv] 47)).alloc (.cells #[.slice Av first.length cv] 47)).alloc (.cells #[.slice A l.length c] 22)) w4.heap.size 47 [.slice Av first.length cv] ∧ Blk (((w4.alloc (.cells #[.slice Av first.length cv] 47)).alloc (.cells #[.slice Av first.length cv] 47)).alloc (.cells #[.slice A l.length c] 22)) (w4.heap.size + 1) 47 [.slice Av first.length cv] ∧ Blk (((w4.alloc (.cells #[.slice Av first.length cv] 47)).alloc (.cells #[.slice Av first.length cv] 47)).alloc (.cells #[.slice A l.length c] 22)) (w4.heap.size + 1 + 1) 22 [.slice A l.length c]) := ⟨by
      have h1 := Blk.new w4 #[.slice Av first.length cv] 47
      have h2 := Blk.new (w4.alloc (.cells #[.slice Av first.length cv] 47)) #[.slice Av first.length cv] 47
      have h3 := Blk.new ((w4.alloc (.cells #[.slice Av first.length cv] 47)).alloc (.cells #[.slice Av first.length cv] 47)) #[.slice A l.length c] 22
      rw [World.size_alloc] at h2
      rw [World.size_alloc, World.size_alloc] at h3
      exact ⟨(h1.alloc _).alloc _, h2.alloc _, h3⟩⟩
    have HS5 := Veil.mk (HS4.out.step HN5.out)
    have hs5 : w4.heap.size < (((w4.alloc (.cells #[.slice Av first.length cv] 47)).alloc (.cells #[.slice Av first.length cv] 47)).alloc (.cells #[.slice A l.length c] 22)).heap.size := by simp; omega
    generalize ((w4.alloc (.cells #[.slice Av first.length cv] 47)).alloc (.cells #[.slice Av first.length cv] 47)).alloc (.cells #[.slice A l.length c] 22) = w5 at *
    obtain ⟨bb, hbb⟩ : ∃ bb, w4.heap.size = bb := ⟨_, rfl⟩
    rw [hbb] at HX5 hw4 hs5 ⊢
    clear hbb HN5 HS4 HS HR b0
    refine wpIn_rangeFunc_or (gf := 79) (lb := #[.pointer (some ⟨bb + 1, 0, none⟩), .pointer (some ⟨bb + 1 + 1, 0, none⟩)]) rfl (enters_of Try.func79 (by kernel_rfl) rfl)
      (Z := fun W => runsTo first l all (commitsM l).length = true ∧ RunsAt w W A l.length c B all.length cb false)
      (Z2 := fun W => runsTo first l all (commitsM l).length = false ∧ RunsAt w W A l.length c B all.length cb false ∧ W.heap[w5.heap.size]? = some (.deferred (some []))) ?_ ?_ ?_
    · intro r W htm hps has hbd hLR hbW hsz
      have hbelow := HS5.out.below.trans (hbW.mono HS5.out.below.size)
      have HJ0 : Veil (RunJ w W A l.length c B all.length cb r w5.heap.size (w5.heap.size + 1) bb (foldM first ((commitsM l).take 0))) :=
        ⟨⟨HS5.out.step hbW, ⟨Av, cv, HX5.out.1.below hbW HX5.out.1.lt, .inr HF.out⟩, hLR, hw4, by omega, by omega⟩⟩
      have hkey := states2_any 5 W A c l (Kd.C_below HC.out hbelow) HL.out HO.out Av cv first (Kd.C_below HF.out hbelow) HFL.out (w5.heap.size + 1) (bb + 1) (bb + 1 + 1)
        ((HX5.out.2.1.below hbW HX5.out.2.1.lt).cell 0 _ rfl) ((HX5.out.2.2.below hbW HX5.out.2.2.lt).cell 0 _ rfl) HAC.out
        (fun k X => runsTo first l all k = true ∧ RunJ w X A l.length c B all.length cb r w5.heap.size (w5.heap.size + 1) bb (foldM first ((commitsM l).take k)))
        (fun X => runsTo first l all (commitsM l).length = false ∧ RunZ w X A l.length c B all.length cb r w5.heap.size (w5.heap.size + 1)) (fun k X Y h hb => ⟨h.1, h.2.step hb⟩) ?hround ⟨rfl, HJ0.out⟩
      · refine hkey.mono ?_
        rintro e W2 ⟨he, ⟨h1, h2⟩ | ⟨h1, h2⟩⟩
        · exact ⟨he, .inl ⟨h2.loop, h1, h2.box⟩⟩
        · exact ⟨he, .inr ⟨h2.left, h1, h2.box, h2.calls⟩⟩
      case hround =>
        intro k t row v X hk ht hJ hac hv
        have HJ := Veil.mk hJ.2
        have HT0 := Veil.mk hJ.1
        have HTK := Veil.mk ht
        have hv2 := Kd.R_lower hv hbelow.size
        obtain ⟨A2, c2, rfl⟩ := Kd.R_slice hv
        obtain ⟨A8, c8, rfl⟩ := Kd.R_slice hac
        have HB0 := Veil.mk (hJ.2.begin t (.slice A8 t.f8.length c8) hv2)
        have HRN := Veil.mk (runsTo_next first l all ht)
        have HRB := Veil.mk (runsTo_bad first l all ht)
        have HFF := Veil.mk (And.intro (foldM_length ((commitsM l).take k) first) (foldM_length ((commitsM l).take (k + 1)) first))
        have HOK : Veil (okRun first l all k t = ((inAll all t && !l.any (relB t)) && (rightO (opsOf all t) first.length && decide (aloneM (opsOf all t) (foldM first ((commitsM l).take k)) = foldM first ((commitsM l).take (k + 1)))))) := ⟨rfl⟩
        have HBX := Veil.mk hbelow
        clear hv hv2 hac hJ ht hbelow
        refine yieldAt_or (r := r) trivial HJ.out.loop.made (by rw [hps]; rfl) ?_
        rw [has, hbd, hps, htm]
        clear has hbd hps htm
        obtain ⟨xs, hxs⟩ : ∃ xs, foldM first ((commitsM l).take k) = xs := ⟨_, rfl⟩
        obtain ⟨ys, hys⟩ : ∃ ys, foldM first ((commitsM l).take (k + 1)) = ys := ⟨_, rfl⟩
        rw [hxs] at HJ HB0 HFF HOK
        rw [hys] at HB0 HFF HOK ⊢
        clear hxs hys
        dsimp only [trC] at HB0 ⊢
        gi_wp2_with fail
        refine ⟨((Below.refl X.heap.size X).alloc (Nat.le_refl _) _).block _ (Array.getElem?_eq_some_iff.1 HJ.out.loop.made).1 |>.trans HJ.out.loop.made, ?_⟩
        generalize (X.alloc (.cells #[.int .i64 t.f0, .int .i64 t.f1, .int .i64 t.f2, .int .i64 t.f3, .int .i64 t.f4, .int .i64 t.f5, .int .i64 t.f6, .bool t.f7, .slice A8 t.f8.length c8] 29)).putObj (w5.heap.size + 1) (.loop (Loop.atBusy r)) = Y at *
        have hcells := tr_cells HB0.out.t
        obtain ⟨p0, p1, p2, p3, p4, p5, p6, p7, p8⟩ := hcells
        have b0 := HB0.out.box.l.cell 0 _ rfl
        have b1 := HB0.out.box.all.cell 0 _ rfl
        have r0 := HB0.out.box.res.cell 0 _ rfl
        have f0 := HB0.out.box.res.free 0
        have HD0 := Veil.mk (HB0.out.step (Below.refl Y.heap.size Y).drew)
        have HLV := Veil.mk (RunB.leave HJ.out HD0.out)
        gi_wp2_with fail
        by_cases a0 : t.f0 < 0
        · as_aux_lemma =>
          have d0 : decide (t.f0 < 0) = true := decide_eq_true a0
          have HBAD : Veil (okRun first l all k t = false) := ⟨by rw [HOK.out]; unfold inAll; rw [decide_eq_false (by omega : ¬ 0 ≤ t.f0)]; simp⟩
          clear a0
          refine wpIn_region_X (fun W' => W'.cell? ⟨X.heap.size, 0, none⟩ = some (.int .i64 t.f0) ∧ W'.cell? ⟨X.heap.size, 1, none⟩ = some (.int .i64 t.f1) ∧ W'.cell? ⟨X.heap.size, 2, none⟩ = some (.int .i64 t.f2) ∧ W'.cell? ⟨X.heap.size, 3, none⟩ = some (.int .i64 t.f3) ∧ W'.cell? ⟨X.heap.size, 4, none⟩ = some (.int .i64 t.f4) ∧ W'.cell? ⟨X.heap.size, 5, none⟩ = some (.int .i64 t.f5) ∧ W'.cell? ⟨X.heap.size, 6, none⟩ = some (.int .i64 t.f6) ∧ W'.cell? ⟨X.heap.size, 7, none⟩ = some (.bool t.f7) ∧ W'.cell? ⟨X.heap.size, 8, none⟩ = some (.slice A8 t.f8.length c8) ∧ W'.cell? ⟨w.heap.size, 0, none⟩ = some (.slice A l.length c) ∧ W'.cell? ⟨w.heap.size + 1, 0, none⟩ = some (.slice B all.length cb)) [] (by kernel_rfl) (by kernel_rfl) (by rintro ⟨a', w', h'⟩; rcases h'.2 with ⟨h', _⟩ | ⟨h', _⟩ <;> cases h') ?_
          have hS0 : Y.drew.cell? ⟨X.heap.size, 0, none⟩ = some (.int .i64 t.f0) ∧ Y.drew.cell? ⟨X.heap.size, 1, none⟩ = some (.int .i64 t.f1) ∧ Y.drew.cell? ⟨X.heap.size, 2, none⟩ = some (.int .i64 t.f2) ∧ Y.drew.cell? ⟨X.heap.size, 3, none⟩ = some (.int .i64 t.f3) ∧ Y.drew.cell? ⟨X.heap.size, 4, none⟩ = some (.int .i64 t.f4) ∧ Y.drew.cell? ⟨X.heap.size, 5, none⟩ = some (.int .i64 t.f5) ∧ Y.drew.cell? ⟨X.heap.size, 6, none⟩ = some (.int .i64 t.f6) ∧ Y.drew.cell? ⟨X.heap.size, 7, none⟩ = some (.bool t.f7) ∧ Y.drew.cell? ⟨X.heap.size, 8, none⟩ = some (.slice A8 t.f8.length c8) ∧ Y.drew.cell? ⟨w.heap.size, 0, none⟩ = some (.slice A l.length c) ∧ Y.drew.cell? ⟨w.heap.size + 1, 0, none⟩ = some (.slice B all.length cb) := ⟨p0, p1, p2, p3, p4, p5, p6, p7, p8, b0, b1⟩
          refine wpAnyX_take3 (i := 0) (v := ?_) rfl (by kernel_rfl) (by kernel_rfl) (by kernel_rfl) (by kernel_rfl) (fun _ _ _ h => h) (Or.inl ⟨by rfl, ?_⟩) (by assumption) ?_
          rotate_left 1
          · intro w hSw; (try dsimp only at hSw); go_split_ands; (first | (go_simp; done) | (go_simp; with_reducible rfl))
          try simp only [Act.put, List.getElem_toArray, List.getElem_cons_zero, List.getElem_cons_succ, List.setIfInBounds_toArray, List.set_cons_zero, List.set_cons_succ]
          refine wpAnyX_take3 (i := 1) (v := ?_) rfl (by kernel_rfl) (by kernel_rfl) (by kernel_rfl) (by kernel_rfl) (fun _ _ _ h => h) (Or.inl ⟨by rfl, ?_⟩) (by assumption) ?_
          rotate_left 1
          · intro w hSw; (try dsimp only at hSw); go_split_ands; (first | (go_simp; done) | (go_simp; with_reducible rfl))
          try simp only [Act.put, List.getElem_toArray, List.getElem_cons_zero, List.getElem_cons_succ, List.setIfInBounds_toArray, List.set_cons_zero, List.set_cons_succ]
          refine wpAnyX_take3 (i := 2) (v := ?_) rfl (by kernel_rfl) (by kernel_rfl) (by kernel_rfl) (by kernel_rfl) (fun _ _ _ h => h) (Or.inl ⟨by rfl, ?_⟩) (by assumption) ?_
          rotate_left 1
          · intro w hSw; (try dsimp only at hSw); go_split_ands; (first | (go_simp; done) | (go_simp; with_reducible rfl))
          try simp only [Act.put, List.getElem_toArray, List.getElem_cons_zero, List.getElem_cons_succ, List.setIfInBounds_toArray, List.set_cons_zero, List.set_cons_succ]
          refine wpAnyX_take3 (i := 3) (v := ?_) rfl (by kernel_rfl) (by kernel_rfl) (by kernel_rfl) (by kernel_rfl) (fun _ _ _ h => h) (Or.inl ⟨by rfl, ?_⟩) (by assumption) ?_
          rotate_left 1
          · intro w hSw; (try dsimp only at hSw); go_split_ands; (first | (go_simp; done) | (go_simp; with_reducible rfl))
          try simp only [Act.put, List.getElem_toArray, List.getElem_cons_zero, List.getElem_cons_succ, List.setIfInBounds_toArray, List.set_cons_zero, List.set_cons_succ]
          refine wpAnyX_take3 (i := 4) (v := undef) rfl (by kernel_rfl) (by kernel_rfl) (by kernel_rfl) (by kernel_rfl) (fun _ _ _ h => h) (Or.inr ⟨by rfl, rfl⟩) (by assumption) ?_
          try simp only [Act.put, List.getElem_toArray, List.getElem_cons_zero, List.getElem_cons_succ, List.setIfInBounds_toArray, List.set_cons_zero, List.set_cons_succ]
          refine wpAnyX_take3 (i := 5) (v := undef) rfl (by kernel_rfl) (by kernel_rfl) (by kernel_rfl) (by kernel_rfl) (fun _ _ _ h => h) (Or.inr ⟨by rfl, rfl⟩) (by assumption) ?_
          try simp only [Act.put, List.getElem_toArray, List.getElem_cons_zero, List.getElem_cons_succ, List.setIfInBounds_toArray, List.set_cons_zero, List.set_cons_succ]
          refine wpAnyX_take3 (i := 6) (v := undef) rfl (by kernel_rfl) (by kernel_rfl) (by kernel_rfl) (by kernel_rfl) (fun _ _ _ h => h) (Or.inr ⟨by rfl, rfl⟩) (by assumption) ?_
          try simp only [Act.put, List.getElem_toArray, List.getElem_cons_zero, List.getElem_cons_succ, List.setIfInBounds_toArray, List.set_cons_zero, List.set_cons_succ]
          refine wpAnyX_take3 (i := 7) (v := undef) rfl (by kernel_rfl) (by kernel_rfl) (by kernel_rfl) (by kernel_rfl) (fun _ _ _ h => h) (Or.inr ⟨by rfl, rfl⟩) (by assumption) ?_
          try simp only [Act.put, List.getElem_toArray, List.getElem_cons_zero, List.getElem_cons_succ, List.setIfInBounds_toArray, List.set_cons_zero, List.set_cons_succ]
          refine wpAnyX_take3 (i := 8) (v := undef) rfl (by kernel_rfl) (by kernel_rfl) (by kernel_rfl) (by kernel_rfl) (fun _ _ _ h => h) (Or.inr ⟨by rfl, rfl⟩) (by assumption) ?_
          try simp only [Act.put, List.getElem_toArray, List.getElem_cons_zero, List.getElem_cons_succ, List.setIfInBounds_toArray, List.set_cons_zero, List.set_cons_succ]
          refine wpAnyX_take3 (i := 9) (v := ?_) rfl (by kernel_rfl) (by kernel_rfl) (by kernel_rfl) (by kernel_rfl) (fun _ _ _ h => h) (Or.inl ⟨by rfl, ?_⟩) (by assumption) ?_
          rotate_left 1
          · intro w hSw; (try dsimp only at hSw); go_split_ands; (first | (go_simp; done) | (go_simp; with_reducible rfl))
          try simp only [Act.put, List.getElem_toArray, List.getElem_cons_zero, List.getElem_cons_succ, List.setIfInBounds_toArray, List.set_cons_zero, List.set_cons_succ]
          refine wpAnyX_take3 (i := 10) (v := ?_) rfl (by kernel_rfl) (by kernel_rfl) (by kernel_rfl) (by kernel_rfl) (fun _ _ _ h => h) (Or.inl ⟨by rfl, ?_⟩) (by assumption) ?_
          rotate_left 1
          · intro w hSw; (try dsimp only at hSw); go_split_ands; (first | (go_simp; done) | (go_simp; with_reducible rfl))
          try simp only [Act.put, List.getElem_toArray, List.getElem_cons_zero, List.getElem_cons_succ, List.setIfInBounds_toArray, List.set_cons_zero, List.set_cons_succ]
          refine wpAnyX_take3 (i := 11) (v := undef) rfl (by kernel_rfl) (by kernel_rfl) (by kernel_rfl) (by kernel_rfl) (fun _ _ _ h => h) (Or.inr ⟨by rfl, rfl⟩) (by assumption) ?_
          try simp only [Act.put, List.getElem_toArray, List.getElem_cons_zero, List.getElem_cons_succ, List.setIfInBounds_toArray, List.set_cons_zero, List.set_cons_succ]
          refine wpAnyX_take3 (i := 12) (v := undef) rfl (by kernel_rfl) (by kernel_rfl) (by kernel_rfl) (by kernel_rfl) (fun _ _ _ h => h) (Or.inr ⟨by rfl, rfl⟩) (by assumption) ?_
          try simp only [Act.put, List.getElem_toArray, List.getElem_cons_zero, List.getElem_cons_succ, List.setIfInBounds_toArray, List.set_cons_zero, List.set_cons_succ]
          refine wpAnyX_take3 (i := 13) (v := undef) rfl (by kernel_rfl) (by kernel_rfl) (by kernel_rfl) (by kernel_rfl) (fun _ _ _ h => h) (Or.inr ⟨by rfl, rfl⟩) (by assumption) ?_
          try simp only [Act.put, List.getElem_toArray, List.getElem_cons_zero, List.getElem_cons_succ, List.setIfInBounds_toArray, List.set_cons_zero, List.set_cons_succ]
          refine wpAnyX_take3 (i := 14) (v := ?_) rfl (by kernel_rfl) (by kernel_rfl) (by kernel_rfl) (by kernel_rfl) (fun _ _ _ h => h) (Or.inl ⟨by rfl, ?_⟩) (by assumption) ?_
          rotate_left 1
          · intro w hSw; (try dsimp only at hSw); go_split_ands; (first | (go_simp; done) | (go_simp; with_reducible rfl))
          try simp only [Act.put, List.getElem_toArray, List.getElem_cons_zero, List.getElem_cons_succ, List.setIfInBounds_toArray, List.set_cons_zero, List.set_cons_succ]
          refine wpAnyX_take3 (i := 15) (v := ?_) rfl (by kernel_rfl) (by kernel_rfl) (by kernel_rfl) (by kernel_rfl) (fun _ _ _ h => h) (Or.inl ⟨by rfl, ?_⟩) (by assumption) ?_
          rotate_left 1
          · intro w hSw; (try dsimp only at hSw); go_split_ands; (first | (go_simp; done) | (go_simp; with_reducible rfl))
          try simp only [Act.put, List.getElem_toArray, List.getElem_cons_zero, List.getElem_cons_succ, List.setIfInBounds_toArray, List.set_cons_zero, List.set_cons_succ]
          refine wpAnyX_take3 (i := 16) (v := undef) rfl (by kernel_rfl) (by kernel_rfl) (by kernel_rfl) (by kernel_rfl) (fun _ _ _ h => h) (Or.inr ⟨by rfl, rfl⟩) (by assumption) ?_
          try simp only [Act.put, List.getElem_toArray, List.getElem_cons_zero, List.getElem_cons_succ, List.setIfInBounds_toArray, List.set_cons_zero, List.set_cons_succ]
          refine wpAnyX_take3 (i := 17) (v := undef) rfl (by kernel_rfl) (by kernel_rfl) (by kernel_rfl) (by kernel_rfl) (fun _ _ _ h => h) (Or.inr ⟨by rfl, rfl⟩) (by assumption) ?_
          try simp only [Act.put, List.getElem_toArray, List.getElem_cons_zero, List.getElem_cons_succ, List.setIfInBounds_toArray, List.set_cons_zero, List.set_cons_succ]
          refine wpAnyX_take3 (i := 18) (v := undef) rfl (by kernel_rfl) (by kernel_rfl) (by kernel_rfl) (by kernel_rfl) (fun _ _ _ h => h) (Or.inr ⟨by rfl, rfl⟩) (by assumption) ?_
          try simp only [Act.put, List.getElem_toArray, List.getElem_cons_zero, List.getElem_cons_succ, List.setIfInBounds_toArray, List.set_cons_zero, List.set_cons_succ]
          refine wpAnyX_take3 (i := 19) (v := undef) rfl (by kernel_rfl) (by kernel_rfl) (by kernel_rfl) (by kernel_rfl) (fun _ _ _ h => h) (Or.inr ⟨by rfl, rfl⟩) (by assumption) ?_
          try simp only [Act.put, List.getElem_toArray, List.getElem_cons_zero, List.getElem_cons_succ, List.setIfInBounds_toArray, List.set_cons_zero, List.set_cons_succ]
          refine wpAnyX_take3 (i := 20) (v := undef) rfl (by kernel_rfl) (by kernel_rfl) (by kernel_rfl) (by kernel_rfl) (fun _ _ _ h => h) (Or.inr ⟨by rfl, rfl⟩) (by assumption) ?_
          try simp only [Act.put, List.getElem_toArray, List.getElem_cons_zero, List.getElem_cons_succ, List.setIfInBounds_toArray, List.set_cons_zero, List.set_cons_succ]
          refine wpAnyX_take3 (i := 21) (v := undef) rfl (by kernel_rfl) (by kernel_rfl) (by kernel_rfl) (by kernel_rfl) (fun _ _ _ h => h) (Or.inr ⟨by rfl, rfl⟩) (by assumption) ?_
          try simp only [Act.put, List.getElem_toArray, List.getElem_cons_zero, List.getElem_cons_succ, List.setIfInBounds_toArray, List.set_cons_zero, List.set_cons_succ]
          refine wpAnyX_take3 (i := 22) (v := undef) rfl (by kernel_rfl) (by kernel_rfl) (by kernel_rfl) (by kernel_rfl) (fun _ _ _ h => h) (Or.inr ⟨by rfl, rfl⟩) (by assumption) ?_
          try simp only [Act.put, List.getElem_toArray, List.getElem_cons_zero, List.getElem_cons_succ, List.setIfInBounds_toArray, List.set_cons_zero, List.set_cons_succ]
          refine wpAnyX_take3 (i := 23) (v := undef) rfl (by kernel_rfl) (by kernel_rfl) (by kernel_rfl) (by kernel_rfl) (fun _ _ _ h => h) (Or.inr ⟨by rfl, rfl⟩) (by assumption) ?_
          try simp only [Act.put, List.getElem_toArray, List.getElem_cons_zero, List.getElem_cons_succ, List.setIfInBounds_toArray, List.set_cons_zero, List.set_cons_succ]
          refine wpAnyX_take3 (i := 24) (v := undef) rfl (by kernel_rfl) (by kernel_rfl) (by kernel_rfl) (by kernel_rfl) (fun _ _ _ h => h) (Or.inr ⟨by rfl, rfl⟩) (by assumption) ?_
          try simp only [Act.put, List.getElem_toArray, List.getElem_cons_zero, List.getElem_cons_succ, List.setIfInBounds_toArray, List.set_cons_zero, List.set_cons_succ]
          refine wpAnyX_take3 (i := 25) (v := ?_) rfl (by kernel_rfl) (by kernel_rfl) (by kernel_rfl) (by kernel_rfl) (fun _ _ _ h => h) (Or.inl ⟨by rfl, ?_⟩) (by assumption) ?_
          rotate_left 1
          · intro w hSw; (try dsimp only at hSw); go_split_ands; (first | (go_simp; done) | (go_simp; with_reducible rfl))
          try simp only [Act.put, List.getElem_toArray, List.getElem_cons_zero, List.getElem_cons_succ, List.setIfInBounds_toArray, List.set_cons_zero, List.set_cons_succ]
          refine wpAnyX_take3 (i := 26) (v := ?_) rfl (by kernel_rfl) (by kernel_rfl) (by kernel_rfl) (by kernel_rfl) (fun _ _ _ h => h) (Or.inl ⟨by rfl, ?_⟩) (by assumption) ?_
          rotate_left 1
          · intro w hSw; (try dsimp only at hSw); go_split_ands; (first | (go_simp; done) | (go_simp; with_reducible rfl))
          try simp only [Act.put, List.getElem_toArray, List.getElem_cons_zero, List.getElem_cons_succ, List.setIfInBounds_toArray, List.set_cons_zero, List.set_cons_succ]
          refine wpAnyX_take3 (i := 27) (v := undef) rfl (by kernel_rfl) (by kernel_rfl) (by kernel_rfl) (by kernel_rfl) (fun _ _ _ h => h) (Or.inr ⟨by rfl, rfl⟩) (by assumption) ?_
          try simp only [Act.put, List.getElem_toArray, List.getElem_cons_zero, List.getElem_cons_succ, List.setIfInBounds_toArray, List.set_cons_zero, List.set_cons_succ]
          refine wpAnyX_take3 (i := 28) (v := undef) rfl (by kernel_rfl) (by kernel_rfl) (by kernel_rfl) (by kernel_rfl) (fun _ _ _ h => h) (Or.inr ⟨by rfl, rfl⟩) (by assumption) ?_
          try simp only [Act.put, List.getElem_toArray, List.getElem_cons_zero, List.getElem_cons_succ, List.setIfInBounds_toArray, List.set_cons_zero, List.set_cons_succ]
          refine wpAnyX_take3 (i := 29) (v := undef) rfl (by kernel_rfl) (by kernel_rfl) (by kernel_rfl) (by kernel_rfl) (fun _ _ _ h => h) (Or.inr ⟨by rfl, rfl⟩) (by assumption) ?_
          try simp only [Act.put, List.getElem_toArray, List.getElem_cons_zero, List.getElem_cons_succ, List.setIfInBounds_toArray, List.set_cons_zero, List.set_cons_succ]
          refine wpAnyX_take3 (i := 30) (v := ?_) rfl (by kernel_rfl) (by kernel_rfl) (by kernel_rfl) (by kernel_rfl) (fun _ _ _ h => h) (Or.inl ⟨by rfl, ?_⟩) (by assumption) ?_
          rotate_left 1
          · intro w hSw; (try dsimp only at hSw); go_split_ands; (first | (go_simp; done) | (go_simp; with_reducible rfl))
          try simp only [Act.put, List.getElem_toArray, List.getElem_cons_zero, List.getElem_cons_succ, List.setIfInBounds_toArray, List.set_cons_zero, List.set_cons_succ]
          clear hS0
          refine wpAnyX_done (by kernel_rfl) ?_ _
          gi_wp2_with fail
          exact ⟨HLV.out.1, HRB.out HBAD.out, HLV.out.2⟩
        have d0 : decide (t.f0 < 0) = false := decide_eq_false a0
        by_cases a1 : t.f0 < (all.length : Int)
        case neg =>
          as_aux_lemma =>
            have d1 : decide (t.f0 ≥ (all.length : Int)) = true := decide_eq_true (by omega)
            have HBAD : Veil (okRun first l all k t = false) := ⟨by rw [HOK.out]; unfold inAll; rw [decide_eq_false a1]; simp⟩
            clear a0 a1
            refine wpIn_region_X (fun W' => W'.cell? ⟨X.heap.size, 0, none⟩ = some (.int .i64 t.f0) ∧ W'.cell? ⟨X.heap.size, 1, none⟩ = some (.int .i64 t.f1) ∧ W'.cell? ⟨X.heap.size, 2, none⟩ = some (.int .i64 t.f2) ∧ W'.cell? ⟨X.heap.size, 3, none⟩ = some (.int .i64 t.f3) ∧ W'.cell? ⟨X.heap.size, 4, none⟩ = some (.int .i64 t.f4) ∧ W'.cell? ⟨X.heap.size, 5, none⟩ = some (.int .i64 t.f5) ∧ W'.cell? ⟨X.heap.size, 6, none⟩ = some (.int .i64 t.f6) ∧ W'.cell? ⟨X.heap.size, 7, none⟩ = some (.bool t.f7) ∧ W'.cell? ⟨X.heap.size, 8, none⟩ = some (.slice A8 t.f8.length c8) ∧ W'.cell? ⟨w.heap.size, 0, none⟩ = some (.slice A l.length c) ∧ W'.cell? ⟨w.heap.size + 1, 0, none⟩ = some (.slice B all.length cb)) [] (by kernel_rfl) (by kernel_rfl) (by rintro ⟨a', w', h'⟩; rcases h'.2 with ⟨h', _⟩ | ⟨h', _⟩ <;> cases h') ?_
            have hS0 : Y.drew.cell? ⟨X.heap.size, 0, none⟩ = some (.int .i64 t.f0) ∧ Y.drew.cell? ⟨X.heap.size, 1, none⟩ = some (.int .i64 t.f1) ∧ Y.drew.cell? ⟨X.heap.size, 2, none⟩ = some (.int .i64 t.f2) ∧ Y.drew.cell? ⟨X.heap.size, 3, none⟩ = some (.int .i64 t.f3) ∧ Y.drew.cell? ⟨X.heap.size, 4, none⟩ = some (.int .i64 t.f4) ∧ Y.drew.cell? ⟨X.heap.size, 5, none⟩ = some (.int .i64 t.f5) ∧ Y.drew.cell? ⟨X.heap.size, 6, none⟩ = some (.int .i64 t.f6) ∧ Y.drew.cell? ⟨X.heap.size, 7, none⟩ = some (.bool t.f7) ∧ Y.drew.cell? ⟨X.heap.size, 8, none⟩ = some (.slice A8 t.f8.length c8) ∧ Y.drew.cell? ⟨w.heap.size, 0, none⟩ = some (.slice A l.length c) ∧ Y.drew.cell? ⟨w.heap.size + 1, 0, none⟩ = some (.slice B all.length cb) := ⟨p0, p1, p2, p3, p4, p5, p6, p7, p8, b0, b1⟩
            refine wpAnyX_take3 (i := 0) (v := ?_) rfl (by kernel_rfl) (by kernel_rfl) (by kernel_rfl) (by kernel_rfl) (fun _ _ _ h => h) (Or.inl ⟨by rfl, ?_⟩) (by assumption) ?_
            rotate_left 1
            · intro w hSw; (try dsimp only at hSw); go_split_ands; (first | (go_simp; done) | (go_simp; with_reducible rfl))
            try simp only [Act.put, List.getElem_toArray, List.getElem_cons_zero, List.getElem_cons_succ, List.setIfInBounds_toArray, List.set_cons_zero, List.set_cons_succ]
            refine wpAnyX_take3 (i := 1) (v := ?_) rfl (by kernel_rfl) (by kernel_rfl) (by kernel_rfl) (by kernel_rfl) (fun _ _ _ h => h) (Or.inl ⟨by rfl, ?_⟩) (by assumption) ?_
            rotate_left 1
            · intro w hSw; (try dsimp only at hSw); go_split_ands; (first | (go_simp; done) | (go_simp; with_reducible rfl))
            try simp only [Act.put, List.getElem_toArray, List.getElem_cons_zero, List.getElem_cons_succ, List.setIfInBounds_toArray, List.set_cons_zero, List.set_cons_succ]
            refine wpAnyX_take3 (i := 2) (v := ?_) rfl (by kernel_rfl) (by kernel_rfl) (by kernel_rfl) (by kernel_rfl) (fun _ _ _ h => h) (Or.inl ⟨by rfl, ?_⟩) (by assumption) ?_
            rotate_left 1
            · intro w hSw; (try dsimp only at hSw); go_split_ands; (first | (go_simp; done) | (go_simp; with_reducible rfl))
            try simp only [Act.put, List.getElem_toArray, List.getElem_cons_zero, List.getElem_cons_succ, List.setIfInBounds_toArray, List.set_cons_zero, List.set_cons_succ]
            refine wpAnyX_take3 (i := 3) (v := ?_) rfl (by kernel_rfl) (by kernel_rfl) (by kernel_rfl) (by kernel_rfl) (fun _ _ _ h => h) (Or.inl ⟨by rfl, ?_⟩) (by assumption) ?_
            rotate_left 1
            · intro w hSw; (try dsimp only at hSw); go_split_ands; (first | (go_simp; done) | (go_simp; with_reducible rfl))
            try simp only [Act.put, List.getElem_toArray, List.getElem_cons_zero, List.getElem_cons_succ, List.setIfInBounds_toArray, List.set_cons_zero, List.set_cons_succ]
            refine wpAnyX_take3 (i := 4) (v := ?_) rfl (by kernel_rfl) (by kernel_rfl) (by kernel_rfl) (by kernel_rfl) (fun _ _ _ h => h) (Or.inl ⟨by rfl, ?_⟩) (by assumption) ?_
            rotate_left 1
            · intro w hSw; (try dsimp only at hSw); go_split_ands; (first | (go_simp; done) | (go_simp; with_reducible rfl))
            try simp only [Act.put, List.getElem_toArray, List.getElem_cons_zero, List.getElem_cons_succ, List.setIfInBounds_toArray, List.set_cons_zero, List.set_cons_succ]
            refine wpAnyX_take3 (i := 5) (v := ?_) rfl (by kernel_rfl) (by kernel_rfl) (by kernel_rfl) (by kernel_rfl) (fun _ _ _ h => h) (Or.inl ⟨by rfl, ?_⟩) (by assumption) ?_
            rotate_left 1
            · intro w hSw; (try dsimp only at hSw); go_split_ands; (first | (go_simp; done) | (go_simp; with_reducible rfl))
            try simp only [Act.put, List.getElem_toArray, List.getElem_cons_zero, List.getElem_cons_succ, List.setIfInBounds_toArray, List.set_cons_zero, List.set_cons_succ]
            refine wpAnyX_take3 (i := 6) (v := ?_) rfl (by kernel_rfl) (by kernel_rfl) (by kernel_rfl) (by kernel_rfl) (fun _ _ _ h => h) (Or.inl ⟨by rfl, ?_⟩) (by assumption) ?_
            rotate_left 1
            · intro w hSw; (try dsimp only at hSw); go_split_ands; (first | (go_simp; done) | (go_simp; with_reducible rfl))
            try simp only [Act.put, List.getElem_toArray, List.getElem_cons_zero, List.getElem_cons_succ, List.setIfInBounds_toArray, List.set_cons_zero, List.set_cons_succ]
            refine wpAnyX_take3 (i := 7) (v := ?_) rfl (by kernel_rfl) (by kernel_rfl) (by kernel_rfl) (by kernel_rfl) (fun _ _ _ h => h) (Or.inl ⟨by rfl, ?_⟩) (by assumption) ?_
            rotate_left 1
            · intro w hSw; (try dsimp only at hSw); go_split_ands; (first | (go_simp; done) | (go_simp; with_reducible rfl))
            try simp only [Act.put, List.getElem_toArray, List.getElem_cons_zero, List.getElem_cons_succ, List.setIfInBounds_toArray, List.set_cons_zero, List.set_cons_succ]
            refine wpAnyX_take3 (i := 8) (v := ?_) rfl (by kernel_rfl) (by kernel_rfl) (by kernel_rfl) (by kernel_rfl) (fun _ _ _ h => h) (Or.inl ⟨by rfl, ?_⟩) (by assumption) ?_
            rotate_left 1
            · intro w hSw; (try dsimp only at hSw); go_split_ands; (first | (go_simp; done) | (go_simp; with_reducible rfl))
            try simp only [Act.put, List.getElem_toArray, List.getElem_cons_zero, List.getElem_cons_succ, List.setIfInBounds_toArray, List.set_cons_zero, List.set_cons_succ]
            refine wpAnyX_take3 (i := 9) (v := ?_) rfl (by kernel_rfl) (by kernel_rfl) (by kernel_rfl) (by kernel_rfl) (fun _ _ _ h => h) (Or.inl ⟨by rfl, ?_⟩) (by assumption) ?_
            rotate_left 1
            · intro w hSw; (try dsimp only at hSw); go_split_ands; (first | (go_simp; done) | (go_simp; with_reducible rfl))
            try simp only [Act.put, List.getElem_toArray, List.getElem_cons_zero, List.getElem_cons_succ, List.setIfInBounds_toArray, List.set_cons_zero, List.set_cons_succ]
            refine wpAnyX_take3 (i := 10) (v := ?_) rfl (by kernel_rfl) (by kernel_rfl) (by kernel_rfl) (by kernel_rfl) (fun _ _ _ h => h) (Or.inl ⟨by rfl, ?_⟩) (by assumption) ?_
            rotate_left 1
            · intro w hSw; (try dsimp only at hSw); go_split_ands; (first | (go_simp; done) | (go_simp; with_reducible rfl))
            try simp only [Act.put, List.getElem_toArray, List.getElem_cons_zero, List.getElem_cons_succ, List.setIfInBounds_toArray, List.set_cons_zero, List.set_cons_succ]
            refine wpAnyX_take3 (i := 11) (v := undef) rfl (by kernel_rfl) (by kernel_rfl) (by kernel_rfl) (by kernel_rfl) (fun _ _ _ h => h) (Or.inr ⟨by rfl, rfl⟩) (by assumption) ?_
            try simp only [Act.put, List.getElem_toArray, List.getElem_cons_zero, List.getElem_cons_succ, List.setIfInBounds_toArray, List.set_cons_zero, List.set_cons_succ]
            refine wpAnyX_take3 (i := 12) (v := undef) rfl (by kernel_rfl) (by kernel_rfl) (by kernel_rfl) (by kernel_rfl) (fun _ _ _ h => h) (Or.inr ⟨by rfl, rfl⟩) (by assumption) ?_
            try simp only [Act.put, List.getElem_toArray, List.getElem_cons_zero, List.getElem_cons_succ, List.setIfInBounds_toArray, List.set_cons_zero, List.set_cons_succ]
            refine wpAnyX_take3 (i := 13) (v := undef) rfl (by kernel_rfl) (by kernel_rfl) (by kernel_rfl) (by kernel_rfl) (fun _ _ _ h => h) (Or.inr ⟨by rfl, rfl⟩) (by assumption) ?_
            try simp only [Act.put, List.getElem_toArray, List.getElem_cons_zero, List.getElem_cons_succ, List.setIfInBounds_toArray, List.set_cons_zero, List.set_cons_succ]
            refine wpAnyX_take3 (i := 14) (v := ?_) rfl (by kernel_rfl) (by kernel_rfl) (by kernel_rfl) (by kernel_rfl) (fun _ _ _ h => h) (Or.inl ⟨by rfl, ?_⟩) (by assumption) ?_
            rotate_left 1
            · intro w hSw; (try dsimp only at hSw); go_split_ands; (first | (go_simp; done) | (go_simp; with_reducible rfl))
            try simp only [Act.put, List.getElem_toArray, List.getElem_cons_zero, List.getElem_cons_succ, List.setIfInBounds_toArray, List.set_cons_zero, List.set_cons_succ]
            refine wpAnyX_take3 (i := 15) (v := ?_) rfl (by kernel_rfl) (by kernel_rfl) (by kernel_rfl) (by kernel_rfl) (fun _ _ _ h => h) (Or.inl ⟨by rfl, ?_⟩) (by assumption) ?_
            rotate_left 1
            · intro w hSw; (try dsimp only at hSw); go_split_ands; (first | (go_simp; done) | (go_simp; with_reducible rfl))
            try simp only [Act.put, List.getElem_toArray, List.getElem_cons_zero, List.getElem_cons_succ, List.setIfInBounds_toArray, List.set_cons_zero, List.set_cons_succ]
            refine wpAnyX_take3 (i := 16) (v := undef) rfl (by kernel_rfl) (by kernel_rfl) (by kernel_rfl) (by kernel_rfl) (fun _ _ _ h => h) (Or.inr ⟨by rfl, rfl⟩) (by assumption) ?_
            try simp only [Act.put, List.getElem_toArray, List.getElem_cons_zero, List.getElem_cons_succ, List.setIfInBounds_toArray, List.set_cons_zero, List.set_cons_succ]
            refine wpAnyX_take3 (i := 17) (v := undef) rfl (by kernel_rfl) (by kernel_rfl) (by kernel_rfl) (by kernel_rfl) (fun _ _ _ h => h) (Or.inr ⟨by rfl, rfl⟩) (by assumption) ?_
            try simp only [Act.put, List.getElem_toArray, List.getElem_cons_zero, List.getElem_cons_succ, List.setIfInBounds_toArray, List.set_cons_zero, List.set_cons_succ]
            refine wpAnyX_take3 (i := 18) (v := undef) rfl (by kernel_rfl) (by kernel_rfl) (by kernel_rfl) (by kernel_rfl) (fun _ _ _ h => h) (Or.inr ⟨by rfl, rfl⟩) (by assumption) ?_
            try simp only [Act.put, List.getElem_toArray, List.getElem_cons_zero, List.getElem_cons_succ, List.setIfInBounds_toArray, List.set_cons_zero, List.set_cons_succ]
            refine wpAnyX_take3 (i := 19) (v := undef) rfl (by kernel_rfl) (by kernel_rfl) (by kernel_rfl) (by kernel_rfl) (fun _ _ _ h => h) (Or.inr ⟨by rfl, rfl⟩) (by assumption) ?_
            try simp only [Act.put, List.getElem_toArray, List.getElem_cons_zero, List.getElem_cons_succ, List.setIfInBounds_toArray, List.set_cons_zero, List.set_cons_succ]
            refine wpAnyX_take3 (i := 20) (v := undef) rfl (by kernel_rfl) (by kernel_rfl) (by kernel_rfl) (by kernel_rfl) (fun _ _ _ h => h) (Or.inr ⟨by rfl, rfl⟩) (by assumption) ?_
            try simp only [Act.put, List.getElem_toArray, List.getElem_cons_zero, List.getElem_cons_succ, List.setIfInBounds_toArray, List.set_cons_zero, List.set_cons_succ]
            refine wpAnyX_take3 (i := 21) (v := undef) rfl (by kernel_rfl) (by kernel_rfl) (by kernel_rfl) (by kernel_rfl) (fun _ _ _ h => h) (Or.inr ⟨by rfl, rfl⟩) (by assumption) ?_
            try simp only [Act.put, List.getElem_toArray, List.getElem_cons_zero, List.getElem_cons_succ, List.setIfInBounds_toArray, List.set_cons_zero, List.set_cons_succ]
            refine wpAnyX_take3 (i := 22) (v := undef) rfl (by kernel_rfl) (by kernel_rfl) (by kernel_rfl) (by kernel_rfl) (fun _ _ _ h => h) (Or.inr ⟨by rfl, rfl⟩) (by assumption) ?_
            try simp only [Act.put, List.getElem_toArray, List.getElem_cons_zero, List.getElem_cons_succ, List.setIfInBounds_toArray, List.set_cons_zero, List.set_cons_succ]
            refine wpAnyX_take3 (i := 23) (v := undef) rfl (by kernel_rfl) (by kernel_rfl) (by kernel_rfl) (by kernel_rfl) (fun _ _ _ h => h) (Or.inr ⟨by rfl, rfl⟩) (by assumption) ?_
            try simp only [Act.put, List.getElem_toArray, List.getElem_cons_zero, List.getElem_cons_succ, List.setIfInBounds_toArray, List.set_cons_zero, List.set_cons_succ]
            refine wpAnyX_take3 (i := 24) (v := undef) rfl (by kernel_rfl) (by kernel_rfl) (by kernel_rfl) (by kernel_rfl) (fun _ _ _ h => h) (Or.inr ⟨by rfl, rfl⟩) (by assumption) ?_
            try simp only [Act.put, List.getElem_toArray, List.getElem_cons_zero, List.getElem_cons_succ, List.setIfInBounds_toArray, List.set_cons_zero, List.set_cons_succ]
            refine wpAnyX_take3 (i := 25) (v := ?_) rfl (by kernel_rfl) (by kernel_rfl) (by kernel_rfl) (by kernel_rfl) (fun _ _ _ h => h) (Or.inl ⟨by rfl, ?_⟩) (by assumption) ?_
            rotate_left 1
            · intro w hSw; (try dsimp only at hSw); go_split_ands; (first | (go_simp; done) | (go_simp; with_reducible rfl))
            try simp only [Act.put, List.getElem_toArray, List.getElem_cons_zero, List.getElem_cons_succ, List.setIfInBounds_toArray, List.set_cons_zero, List.set_cons_succ]
            refine wpAnyX_take3 (i := 26) (v := ?_) rfl (by kernel_rfl) (by kernel_rfl) (by kernel_rfl) (by kernel_rfl) (fun _ _ _ h => h) (Or.inl ⟨by rfl, ?_⟩) (by assumption) ?_
            rotate_left 1
            · intro w hSw; (try dsimp only at hSw); go_split_ands; (first | (go_simp; done) | (go_simp; with_reducible rfl))
            try simp only [Act.put, List.getElem_toArray, List.getElem_cons_zero, List.getElem_cons_succ, List.setIfInBounds_toArray, List.set_cons_zero, List.set_cons_succ]
            refine wpAnyX_take3 (i := 27) (v := undef) rfl (by kernel_rfl) (by kernel_rfl) (by kernel_rfl) (by kernel_rfl) (fun _ _ _ h => h) (Or.inr ⟨by rfl, rfl⟩) (by assumption) ?_
            try simp only [Act.put, List.getElem_toArray, List.getElem_cons_zero, List.getElem_cons_succ, List.setIfInBounds_toArray, List.set_cons_zero, List.set_cons_succ]
            refine wpAnyX_take3 (i := 28) (v := undef) rfl (by kernel_rfl) (by kernel_rfl) (by kernel_rfl) (by kernel_rfl) (fun _ _ _ h => h) (Or.inr ⟨by rfl, rfl⟩) (by assumption) ?_
            try simp only [Act.put, List.getElem_toArray, List.getElem_cons_zero, List.getElem_cons_succ, List.setIfInBounds_toArray, List.set_cons_zero, List.set_cons_succ]
            refine wpAnyX_take3 (i := 29) (v := undef) rfl (by kernel_rfl) (by kernel_rfl) (by kernel_rfl) (by kernel_rfl) (fun _ _ _ h => h) (Or.inr ⟨by rfl, rfl⟩) (by assumption) ?_
            try simp only [Act.put, List.getElem_toArray, List.getElem_cons_zero, List.getElem_cons_succ, List.setIfInBounds_toArray, List.set_cons_zero, List.set_cons_succ]
            refine wpAnyX_take3 (i := 30) (v := ?_) rfl (by kernel_rfl) (by kernel_rfl) (by kernel_rfl) (by kernel_rfl) (fun _ _ _ h => h) (Or.inl ⟨by rfl, ?_⟩) (by assumption) ?_
            rotate_left 1
            · intro w hSw; (try dsimp only at hSw); go_split_ands; (first | (go_simp; done) | (go_simp; with_reducible rfl))
            try simp only [Act.put, List.getElem_toArray, List.getElem_cons_zero, List.getElem_cons_succ, List.setIfInBounds_toArray, List.set_cons_zero, List.set_cons_succ]
            clear hS0
            refine wpAnyX_done (by kernel_rfl) ?_ _
            gi_wp2_with fail
            exact ⟨HLV.out.1, HRB.out HBAD.out, HLV.out.2⟩
        have d1 : decide (t.f0 ≥ (all.length : Int)) = false := decide_eq_false (by omega)
        by_cases a2 : t.f1 < 0
        · as_aux_lemma =>
          have d2 : decide (t.f1 < 0) = true := decide_eq_true a2
          have HBAD : Veil (okRun first l all k t = false) := ⟨by rw [HOK.out]; unfold inAll; rw [decide_eq_false (by omega : ¬ 0 ≤ t.f1)]; simp⟩
          clear a0 a1 a2
          refine wpIn_region_X (fun W' => W'.cell? ⟨X.heap.size, 0, none⟩ = some (.int .i64 t.f0) ∧ W'.cell? ⟨X.heap.size, 1, none⟩ = some (.int .i64 t.f1) ∧ W'.cell? ⟨X.heap.size, 2, none⟩ = some (.int .i64 t.f2) ∧ W'.cell? ⟨X.heap.size, 3, none⟩ = some (.int .i64 t.f3) ∧ W'.cell? ⟨X.heap.size, 4, none⟩ = some (.int .i64 t.f4) ∧ W'.cell? ⟨X.heap.size, 5, none⟩ = some (.int .i64 t.f5) ∧ W'.cell? ⟨X.heap.size, 6, none⟩ = some (.int .i64 t.f6) ∧ W'.cell? ⟨X.heap.size, 7, none⟩ = some (.bool t.f7) ∧ W'.cell? ⟨X.heap.size, 8, none⟩ = some (.slice A8 t.f8.length c8) ∧ W'.cell? ⟨w.heap.size, 0, none⟩ = some (.slice A l.length c) ∧ W'.cell? ⟨w.heap.size + 1, 0, none⟩ = some (.slice B all.length cb)) [] (by kernel_rfl) (by kernel_rfl) (by rintro ⟨a', w', h'⟩; rcases h'.2 with ⟨h', _⟩ | ⟨h', _⟩ <;> cases h') ?_
          have hS0 : Y.drew.cell? ⟨X.heap.size, 0, none⟩ = some (.int .i64 t.f0) ∧ Y.drew.cell? ⟨X.heap.size, 1, none⟩ = some (.int .i64 t.f1) ∧ Y.drew.cell? ⟨X.heap.size, 2, none⟩ = some (.int .i64 t.f2) ∧ Y.drew.cell? ⟨X.heap.size, 3, none⟩ = some (.int .i64 t.f3) ∧ Y.drew.cell? ⟨X.heap.size, 4, none⟩ = some (.int .i64 t.f4) ∧ Y.drew.cell? ⟨X.heap.size, 5, none⟩ = some (.int .i64 t.f5) ∧ Y.drew.cell? ⟨X.heap.size, 6, none⟩ = some (.int .i64 t.f6) ∧ Y.drew.cell? ⟨X.heap.size, 7, none⟩ = some (.bool t.f7) ∧ Y.drew.cell? ⟨X.heap.size, 8, none⟩ = some (.slice A8 t.f8.length c8) ∧ Y.drew.cell? ⟨w.heap.size, 0, none⟩ = some (.slice A l.length c) ∧ Y.drew.cell? ⟨w.heap.size + 1, 0, none⟩ = some (.slice B all.length cb) := ⟨p0, p1, p2, p3, p4, p5, p6, p7, p8, b0, b1⟩
          refine wpAnyX_take3 (i := 0) (v := ?_) rfl (by kernel_rfl) (by kernel_rfl) (by kernel_rfl) (by kernel_rfl) (fun _ _ _ h => h) (Or.inl ⟨by rfl, ?_⟩) (by assumption) ?_
          rotate_left 1
          · intro w hSw; (try dsimp only at hSw); go_split_ands; (first | (go_simp; done) | (go_simp; with_reducible rfl))
          try simp only [Act.put, List.getElem_toArray, List.getElem_cons_zero, List.getElem_cons_succ, List.setIfInBounds_toArray, List.set_cons_zero, List.set_cons_succ]
          refine wpAnyX_take3 (i := 1) (v := ?_) rfl (by kernel_rfl) (by kernel_rfl) (by kernel_rfl) (by kernel_rfl) (fun _ _ _ h => h) (Or.inl ⟨by rfl, ?_⟩) (by assumption) ?_
          rotate_left 1
          · intro w hSw; (try dsimp only at hSw); go_split_ands; (first | (go_simp; done) | (go_simp; with_reducible rfl))
          try simp only [Act.put, List.getElem_toArray, List.getElem_cons_zero, List.getElem_cons_succ, List.setIfInBounds_toArray, List.set_cons_zero, List.set_cons_succ]
          refine wpAnyX_take3 (i := 2) (v := ?_) rfl (by kernel_rfl) (by kernel_rfl) (by kernel_rfl) (by kernel_rfl) (fun _ _ _ h => h) (Or.inl ⟨by rfl, ?_⟩) (by assumption) ?_
          rotate_left 1
          · intro w hSw; (try dsimp only at hSw); go_split_ands; (first | (go_simp; done) | (go_simp; with_reducible rfl))
          try simp only [Act.put, List.getElem_toArray, List.getElem_cons_zero, List.getElem_cons_succ, List.setIfInBounds_toArray, List.set_cons_zero, List.set_cons_succ]
          refine wpAnyX_take3 (i := 3) (v := ?_) rfl (by kernel_rfl) (by kernel_rfl) (by kernel_rfl) (by kernel_rfl) (fun _ _ _ h => h) (Or.inl ⟨by rfl, ?_⟩) (by assumption) ?_
          rotate_left 1
          · intro w hSw; (try dsimp only at hSw); go_split_ands; (first | (go_simp; done) | (go_simp; with_reducible rfl))
          try simp only [Act.put, List.getElem_toArray, List.getElem_cons_zero, List.getElem_cons_succ, List.setIfInBounds_toArray, List.set_cons_zero, List.set_cons_succ]
          refine wpAnyX_take3 (i := 4) (v := ?_) rfl (by kernel_rfl) (by kernel_rfl) (by kernel_rfl) (by kernel_rfl) (fun _ _ _ h => h) (Or.inl ⟨by rfl, ?_⟩) (by assumption) ?_
          rotate_left 1
          · intro w hSw; (try dsimp only at hSw); go_split_ands; (first | (go_simp; done) | (go_simp; with_reducible rfl))
          try simp only [Act.put, List.getElem_toArray, List.getElem_cons_zero, List.getElem_cons_succ, List.setIfInBounds_toArray, List.set_cons_zero, List.set_cons_succ]
          refine wpAnyX_take3 (i := 5) (v := ?_) rfl (by kernel_rfl) (by kernel_rfl) (by kernel_rfl) (by kernel_rfl) (fun _ _ _ h => h) (Or.inl ⟨by rfl, ?_⟩) (by assumption) ?_
          rotate_left 1
          · intro w hSw; (try dsimp only at hSw); go_split_ands; (first | (go_simp; done) | (go_simp; with_reducible rfl))
          try simp only [Act.put, List.getElem_toArray, List.getElem_cons_zero, List.getElem_cons_succ, List.setIfInBounds_toArray, List.set_cons_zero, List.set_cons_succ]
          refine wpAnyX_take3 (i := 6) (v := ?_) rfl (by kernel_rfl) (by kernel_rfl) (by kernel_rfl) (by kernel_rfl) (fun _ _ _ h => h) (Or.inl ⟨by rfl, ?_⟩) (by assumption) ?_
          rotate_left 1
          · intro w hSw; (try dsimp only at hSw); go_split_ands; (first | (go_simp; done) | (go_simp; with_reducible rfl))
          try simp only [Act.put, List.getElem_toArray, List.getElem_cons_zero, List.getElem_cons_succ, List.setIfInBounds_toArray, List.set_cons_zero, List.set_cons_succ]
          refine wpAnyX_take3 (i := 7) (v := ?_) rfl (by kernel_rfl) (by kernel_rfl) (by kernel_rfl) (by kernel_rfl) (fun _ _ _ h => h) (Or.inl ⟨by rfl, ?_⟩) (by assumption) ?_
          rotate_left 1
          · intro w hSw; (try dsimp only at hSw); go_split_ands; (first | (go_simp; done) | (go_simp; with_reducible rfl))
          try simp only [Act.put, List.getElem_toArray, List.getElem_cons_zero, List.getElem_cons_succ, List.setIfInBounds_toArray, List.set_cons_zero, List.set_cons_succ]
          refine wpAnyX_take3 (i := 8) (v := ?_) rfl (by kernel_rfl) (by kernel_rfl) (by kernel_rfl) (by kernel_rfl) (fun _ _ _ h => h) (Or.inl ⟨by rfl, ?_⟩) (by assumption) ?_
          rotate_left 1
          · intro w hSw; (try dsimp only at hSw); go_split_ands; (first | (go_simp; done) | (go_simp; with_reducible rfl))
          try simp only [Act.put, List.getElem_toArray, List.getElem_cons_zero, List.getElem_cons_succ, List.setIfInBounds_toArray, List.set_cons_zero, List.set_cons_succ]
          refine wpAnyX_take3 (i := 9) (v := ?_) rfl (by kernel_rfl) (by kernel_rfl) (by kernel_rfl) (by kernel_rfl) (fun _ _ _ h => h) (Or.inl ⟨by rfl, ?_⟩) (by assumption) ?_
          rotate_left 1
          · intro w hSw; (try dsimp only at hSw); go_split_ands; (first | (go_simp; done) | (go_simp; with_reducible rfl))
          try simp only [Act.put, List.getElem_toArray, List.getElem_cons_zero, List.getElem_cons_succ, List.setIfInBounds_toArray, List.set_cons_zero, List.set_cons_succ]
          refine wpAnyX_take3 (i := 10) (v := ?_) rfl (by kernel_rfl) (by kernel_rfl) (by kernel_rfl) (by kernel_rfl) (fun _ _ _ h => h) (Or.inl ⟨by rfl, ?_⟩) (by assumption) ?_
          rotate_left 1
          · intro w hSw; (try dsimp only at hSw); go_split_ands; (first | (go_simp; done) | (go_simp; with_reducible rfl))
          try simp only [Act.put, List.getElem_toArray, List.getElem_cons_zero, List.getElem_cons_succ, List.setIfInBounds_toArray, List.set_cons_zero, List.set_cons_succ]
          refine wpAnyX_take3 (i := 11) (v := ?_) rfl (by kernel_rfl) (by kernel_rfl) (by kernel_rfl) (by kernel_rfl) (fun _ _ _ h => h) (Or.inl ⟨by rfl, ?_⟩) (by assumption) ?_
          rotate_left 1
          · intro w hSw; (try dsimp only at hSw); go_split_ands; (first | (go_simp; done) | (go_simp; with_reducible rfl))
          try simp only [Act.put, List.getElem_toArray, List.getElem_cons_zero, List.getElem_cons_succ, List.setIfInBounds_toArray, List.set_cons_zero, List.set_cons_succ]
          refine wpAnyX_take3 (i := 12) (v := ?_) rfl (by kernel_rfl) (by kernel_rfl) (by kernel_rfl) (by kernel_rfl) (fun _ _ _ h => h) (Or.inl ⟨by rfl, ?_⟩) (by assumption) ?_
          rotate_left 1
          · intro w hSw; (try dsimp only at hSw); go_split_ands; (first | (go_simp; done) | (go_simp; with_reducible rfl))
          try simp only [Act.put, List.getElem_toArray, List.getElem_cons_zero, List.getElem_cons_succ, List.setIfInBounds_toArray, List.set_cons_zero, List.set_cons_succ]
          refine wpAnyX_take3 (i := 13) (v := ?_) rfl (by kernel_rfl) (by kernel_rfl) (by kernel_rfl) (by kernel_rfl) (fun _ _ _ h => h) (Or.inl ⟨by rfl, ?_⟩) (by assumption) ?_
          rotate_left 1
          · intro w hSw; (try dsimp only at hSw); go_split_ands; (first | (go_simp; done) | (go_simp; with_reducible rfl))
          try simp only [Act.put, List.getElem_toArray, List.getElem_cons_zero, List.getElem_cons_succ, List.setIfInBounds_toArray, List.set_cons_zero, List.set_cons_succ]
          refine wpAnyX_take3 (i := 14) (v := ?_) rfl (by kernel_rfl) (by kernel_rfl) (by kernel_rfl) (by kernel_rfl) (fun _ _ _ h => h) (Or.inl ⟨by rfl, ?_⟩) (by assumption) ?_
          rotate_left 1
          · intro w hSw; (try dsimp only at hSw); go_split_ands; (first | (go_simp; done) | (go_simp; with_reducible rfl))
          try simp only [Act.put, List.getElem_toArray, List.getElem_cons_zero, List.getElem_cons_succ, List.setIfInBounds_toArray, List.set_cons_zero, List.set_cons_succ]
          refine wpAnyX_take3 (i := 15) (v := ?_) rfl (by kernel_rfl) (by kernel_rfl) (by kernel_rfl) (by kernel_rfl) (fun _ _ _ h => h) (Or.inl ⟨by rfl, ?_⟩) (by assumption) ?_
          rotate_left 1
          · intro w hSw; (try dsimp only at hSw); go_split_ands; (first | (go_simp; done) | (go_simp; with_reducible rfl))
          try simp only [Act.put, List.getElem_toArray, List.getElem_cons_zero, List.getElem_cons_succ, List.setIfInBounds_toArray, List.set_cons_zero, List.set_cons_succ]
          refine wpAnyX_take3 (i := 16) (v := undef) rfl (by kernel_rfl) (by kernel_rfl) (by kernel_rfl) (by kernel_rfl) (fun _ _ _ h => h) (Or.inr ⟨by rfl, rfl⟩) (by assumption) ?_
          try simp only [Act.put, List.getElem_toArray, List.getElem_cons_zero, List.getElem_cons_succ, List.setIfInBounds_toArray, List.set_cons_zero, List.set_cons_succ]
          refine wpAnyX_take3 (i := 17) (v := undef) rfl (by kernel_rfl) (by kernel_rfl) (by kernel_rfl) (by kernel_rfl) (fun _ _ _ h => h) (Or.inr ⟨by rfl, rfl⟩) (by assumption) ?_
          try simp only [Act.put, List.getElem_toArray, List.getElem_cons_zero, List.getElem_cons_succ, List.setIfInBounds_toArray, List.set_cons_zero, List.set_cons_succ]
          refine wpAnyX_take3 (i := 18) (v := undef) rfl (by kernel_rfl) (by kernel_rfl) (by kernel_rfl) (by kernel_rfl) (fun _ _ _ h => h) (Or.inr ⟨by rfl, rfl⟩) (by assumption) ?_
          try simp only [Act.put, List.getElem_toArray, List.getElem_cons_zero, List.getElem_cons_succ, List.setIfInBounds_toArray, List.set_cons_zero, List.set_cons_succ]
          refine wpAnyX_take3 (i := 19) (v := undef) rfl (by kernel_rfl) (by kernel_rfl) (by kernel_rfl) (by kernel_rfl) (fun _ _ _ h => h) (Or.inr ⟨by rfl, rfl⟩) (by assumption) ?_
          try simp only [Act.put, List.getElem_toArray, List.getElem_cons_zero, List.getElem_cons_succ, List.setIfInBounds_toArray, List.set_cons_zero, List.set_cons_succ]
          refine wpAnyX_take3 (i := 20) (v := undef) rfl (by kernel_rfl) (by kernel_rfl) (by kernel_rfl) (by kernel_rfl) (fun _ _ _ h => h) (Or.inr ⟨by rfl, rfl⟩) (by assumption) ?_
          try simp only [Act.put, List.getElem_toArray, List.getElem_cons_zero, List.getElem_cons_succ, List.setIfInBounds_toArray, List.set_cons_zero, List.set_cons_succ]
          refine wpAnyX_take3 (i := 21) (v := undef) rfl (by kernel_rfl) (by kernel_rfl) (by kernel_rfl) (by kernel_rfl) (fun _ _ _ h => h) (Or.inr ⟨by rfl, rfl⟩) (by assumption) ?_
          try simp only [Act.put, List.getElem_toArray, List.getElem_cons_zero, List.getElem_cons_succ, List.setIfInBounds_toArray, List.set_cons_zero, List.set_cons_succ]
          refine wpAnyX_take3 (i := 22) (v := undef) rfl (by kernel_rfl) (by kernel_rfl) (by kernel_rfl) (by kernel_rfl) (fun _ _ _ h => h) (Or.inr ⟨by rfl, rfl⟩) (by assumption) ?_
          try simp only [Act.put, List.getElem_toArray, List.getElem_cons_zero, List.getElem_cons_succ, List.setIfInBounds_toArray, List.set_cons_zero, List.set_cons_succ]
          refine wpAnyX_take3 (i := 23) (v := undef) rfl (by kernel_rfl) (by kernel_rfl) (by kernel_rfl) (by kernel_rfl) (fun _ _ _ h => h) (Or.inr ⟨by rfl, rfl⟩) (by assumption) ?_
          try simp only [Act.put, List.getElem_toArray, List.getElem_cons_zero, List.getElem_cons_succ, List.setIfInBounds_toArray, List.set_cons_zero, List.set_cons_succ]
          refine wpAnyX_take3 (i := 24) (v := undef) rfl (by kernel_rfl) (by kernel_rfl) (by kernel_rfl) (by kernel_rfl) (fun _ _ _ h => h) (Or.inr ⟨by rfl, rfl⟩) (by assumption) ?_
          try simp only [Act.put, List.getElem_toArray, List.getElem_cons_zero, List.getElem_cons_succ, List.setIfInBounds_toArray, List.set_cons_zero, List.set_cons_succ]
          refine wpAnyX_take3 (i := 25) (v := ?_) rfl (by kernel_rfl) (by kernel_rfl) (by kernel_rfl) (by kernel_rfl) (fun _ _ _ h => h) (Or.inl ⟨by rfl, ?_⟩) (by assumption) ?_
          rotate_left 1
          · intro w hSw; (try dsimp only at hSw); go_split_ands; (first | (go_simp; done) | (go_simp; with_reducible rfl))
          try simp only [Act.put, List.getElem_toArray, List.getElem_cons_zero, List.getElem_cons_succ, List.setIfInBounds_toArray, List.set_cons_zero, List.set_cons_succ]
          refine wpAnyX_take3 (i := 26) (v := ?_) rfl (by kernel_rfl) (by kernel_rfl) (by kernel_rfl) (by kernel_rfl) (fun _ _ _ h => h) (Or.inl ⟨by rfl, ?_⟩) (by assumption) ?_
          rotate_left 1
          · intro w hSw; (try dsimp only at hSw); go_split_ands; (first | (go_simp; done) | (go_simp; with_reducible rfl))
          try simp only [Act.put, List.getElem_toArray, List.getElem_cons_zero, List.getElem_cons_succ, List.setIfInBounds_toArray, List.set_cons_zero, List.set_cons_succ]
          refine wpAnyX_take3 (i := 27) (v := undef) rfl (by kernel_rfl) (by kernel_rfl) (by kernel_rfl) (by kernel_rfl) (fun _ _ _ h => h) (Or.inr ⟨by rfl, rfl⟩) (by assumption) ?_
          try simp only [Act.put, List.getElem_toArray, List.getElem_cons_zero, List.getElem_cons_succ, List.setIfInBounds_toArray, List.set_cons_zero, List.set_cons_succ]
          refine wpAnyX_take3 (i := 28) (v := undef) rfl (by kernel_rfl) (by kernel_rfl) (by kernel_rfl) (by kernel_rfl) (fun _ _ _ h => h) (Or.inr ⟨by rfl, rfl⟩) (by assumption) ?_
          try simp only [Act.put, List.getElem_toArray, List.getElem_cons_zero, List.getElem_cons_succ, List.setIfInBounds_toArray, List.set_cons_zero, List.set_cons_succ]
          refine wpAnyX_take3 (i := 29) (v := undef) rfl (by kernel_rfl) (by kernel_rfl) (by kernel_rfl) (by kernel_rfl) (fun _ _ _ h => h) (Or.inr ⟨by rfl, rfl⟩) (by assumption) ?_
          try simp only [Act.put, List.getElem_toArray, List.getElem_cons_zero, List.getElem_cons_succ, List.setIfInBounds_toArray, List.set_cons_zero, List.set_cons_succ]
          refine wpAnyX_take3 (i := 30) (v := ?_) rfl (by kernel_rfl) (by kernel_rfl) (by kernel_rfl) (by kernel_rfl) (fun _ _ _ h => h) (Or.inl ⟨by rfl, ?_⟩) (by assumption) ?_
          rotate_left 1
          · intro w hSw; (try dsimp only at hSw); go_split_ands; (first | (go_simp; done) | (go_simp; with_reducible rfl))
          try simp only [Act.put, List.getElem_toArray, List.getElem_cons_zero, List.getElem_cons_succ, List.setIfInBounds_toArray, List.set_cons_zero, List.set_cons_succ]
          clear hS0
          refine wpAnyX_done (by kernel_rfl) ?_ _
          gi_wp2_with fail
          exact ⟨HLV.out.1, HRB.out HBAD.out, HLV.out.2⟩
        have d2 : decide (t.f1 < 0) = false := decide_eq_false a2
        obtain ⟨i0, hi0⟩ : ∃ i : Nat, t.f0 = (i : Int) := ⟨t.f0.toNat, by omega⟩
        obtain ⟨i1, hi1⟩ : ∃ i : Nat, t.f1 = (i : Int) := ⟨t.f1.toNat, by omega⟩
        have hl0 : i0 < all.length := by omega
        obtain ⟨ad, A1, c1, rfl, x1, hcc, HC1⟩ := row_at (Kd.C_below HBB.out HB0.out.box.below) i0 hl0
        have hgd : all.getD t.f0.toNat [] = all[i0] := by rw [hi0]; simp [List.getD, hl0]
        have hm1 := HAL.out.2.1 _ (List.getElem_mem hl0)
        have hm2 := HAL.out.2.2 _ (List.getElem_mem hl0)
        obtain ⟨av, hav⟩ : ∃ av, all[i0] = av := ⟨_, rfl⟩
        rw [hav] at x1 hgd HC1 hm1 hm2
        have HIN : Veil (inAll all t = decide (i1 < av.length)) := ⟨by
          unfold inAll
          rw [hgd, hi1, decide_eq_true (by omega : 0 ≤ t.f0), decide_eq_true a1, decide_eq_true (by omega : (0 : Int) ≤ (i1 : Int))]
          simp⟩
        have HRL : Veil (∀ W, Below w.heap.size w W → Calls Try.prog 65 #[.slice A l.length c, .agg #[.int .i64 (i0 : Int), .int .i64 (i1 : Int), .int .i64 t.f2, .int .i64 t.f3, .int .i64 t.f4, .int .i64 t.f5, .int .i64 t.f6, .bool t.f7, .slice A8 t.f8.length c8]] W fun e w' => e = .returned (.bool (l.any (relB t))) ∧ Below W.heap.size W w') := ⟨fun W h => by rw [← hi0, ← hi1]; exact released_any W A c l t A8 c8 (Kd.C_below HC.out h) HL.out⟩
        have HOP : Veil (i1 < av.length → opsOf all t = av.getD i1 []) := ⟨fun _ => by unfold opsOf; rw [hgd, hi1]; rfl⟩
        have HCV := Veil.mk (And.intro HC1 hm2)
        rw [hi0] at p0 d0 d1 ⊢
        rw [hi1] at p1 d2 ⊢
        have d5 : (i0 : Int) < (all.length : Int) := by omega
        have e1 : decide (all.length ≤ i0) = false := decide_eq_false (by omega)
        clear a0 a1 a2 hi0 hi1 hl0 hcc HC1 hgd hav hm2
        by_cases a3 : i1 < av.length
        case neg =>
          as_aux_lemma =>
            have d3 : decide ((i1 : Int) ≥ (av.length : Int)) = true := decide_eq_true (by omega)
            have e3 : decide (av.length ≤ i1) = true := decide_eq_true (by omega)
            have HBAD : Veil (okRun first l all k t = false) := ⟨by rw [HOK.out, HIN.out, decide_eq_false a3]; simp⟩
            clear a3
            refine wpIn_region_X (fun W' => W'.cell? ⟨X.heap.size, 0, none⟩ = some (.int .i64 (i0 : Int)) ∧ W'.cell? ⟨X.heap.size, 1, none⟩ = some (.int .i64 (i1 : Int)) ∧ W'.cell? ⟨X.heap.size, 2, none⟩ = some (.int .i64 t.f2) ∧ W'.cell? ⟨X.heap.size, 3, none⟩ = some (.int .i64 t.f3) ∧ W'.cell? ⟨X.heap.size, 4, none⟩ = some (.int .i64 t.f4) ∧ W'.cell? ⟨X.heap.size, 5, none⟩ = some (.int .i64 t.f5) ∧ W'.cell? ⟨X.heap.size, 6, none⟩ = some (.int .i64 t.f6) ∧ W'.cell? ⟨X.heap.size, 7, none⟩ = some (.bool t.f7) ∧ W'.cell? ⟨X.heap.size, 8, none⟩ = some (.slice A8 t.f8.length c8) ∧ W'.cell? ⟨w.heap.size, 0, none⟩ = some (.slice A l.length c) ∧ W'.cell? ⟨w.heap.size + 1, 0, none⟩ = some (.slice (some ad) all.length cb) ∧ W'.cell? (ad.add i0) = some (.slice A1 av.length c1)) [] (by kernel_rfl) (by kernel_rfl) (by rintro ⟨a', w', h'⟩; rcases h'.2 with ⟨h', _⟩ | ⟨h', _⟩ <;> cases h') ?_
            have hS0 : Y.drew.cell? ⟨X.heap.size, 0, none⟩ = some (.int .i64 (i0 : Int)) ∧ Y.drew.cell? ⟨X.heap.size, 1, none⟩ = some (.int .i64 (i1 : Int)) ∧ Y.drew.cell? ⟨X.heap.size, 2, none⟩ = some (.int .i64 t.f2) ∧ Y.drew.cell? ⟨X.heap.size, 3, none⟩ = some (.int .i64 t.f3) ∧ Y.drew.cell? ⟨X.heap.size, 4, none⟩ = some (.int .i64 t.f4) ∧ Y.drew.cell? ⟨X.heap.size, 5, none⟩ = some (.int .i64 t.f5) ∧ Y.drew.cell? ⟨X.heap.size, 6, none⟩ = some (.int .i64 t.f6) ∧ Y.drew.cell? ⟨X.heap.size, 7, none⟩ = some (.bool t.f7) ∧ Y.drew.cell? ⟨X.heap.size, 8, none⟩ = some (.slice A8 t.f8.length c8) ∧ Y.drew.cell? ⟨w.heap.size, 0, none⟩ = some (.slice A l.length c) ∧ Y.drew.cell? ⟨w.heap.size + 1, 0, none⟩ = some (.slice (some ad) all.length cb) ∧ Y.drew.cell? (ad.add i0) = some (.slice A1 av.length c1) := ⟨p0, p1, p2, p3, p4, p5, p6, p7, p8, b0, b1, x1⟩
            refine wpAnyX_take3 (i := 0) (v := ?_) rfl (by kernel_rfl) (by kernel_rfl) (by kernel_rfl) (by kernel_rfl) (fun _ _ _ h => h) (Or.inl ⟨by rfl, ?_⟩) (by assumption) ?_
            rotate_left 1
            · intro w hSw; (try dsimp only at hSw); go_split_ands; (first | (go_simp; done) | (go_simp; with_reducible rfl))
            try simp only [Act.put, List.getElem_toArray, List.getElem_cons_zero, List.getElem_cons_succ, List.setIfInBounds_toArray, List.set_cons_zero, List.set_cons_succ]
            refine wpAnyX_take3 (i := 1) (v := ?_) rfl (by kernel_rfl) (by kernel_rfl) (by kernel_rfl) (by kernel_rfl) (fun _ _ _ h => h) (Or.inl ⟨by rfl, ?_⟩) (by assumption) ?_
            rotate_left 1
            · intro w hSw; (try dsimp only at hSw); go_split_ands; (first | (go_simp; done) | (go_simp; with_reducible rfl))
            try simp only [Act.put, List.getElem_toArray, List.getElem_cons_zero, List.getElem_cons_succ, List.setIfInBounds_toArray, List.set_cons_zero, List.set_cons_succ]
            refine wpAnyX_take3 (i := 2) (v := ?_) rfl (by kernel_rfl) (by kernel_rfl) (by kernel_rfl) (by kernel_rfl) (fun _ _ _ h => h) (Or.inl ⟨by rfl, ?_⟩) (by assumption) ?_
            rotate_left 1
            · intro w hSw; (try dsimp only at hSw); go_split_ands; (first | (go_simp; done) | (go_simp; with_reducible rfl))
            try simp only [Act.put, List.getElem_toArray, List.getElem_cons_zero, List.getElem_cons_succ, List.setIfInBounds_toArray, List.set_cons_zero, List.set_cons_succ]
            refine wpAnyX_take3 (i := 3) (v := ?_) rfl (by kernel_rfl) (by kernel_rfl) (by kernel_rfl) (by kernel_rfl) (fun _ _ _ h => h) (Or.inl ⟨by rfl, ?_⟩) (by assumption) ?_
            rotate_left 1
            · intro w hSw; (try dsimp only at hSw); go_split_ands; (first | (go_simp; done) | (go_simp; with_reducible rfl))
            try simp only [Act.put, List.getElem_toArray, List.getElem_cons_zero, List.getElem_cons_succ, List.setIfInBounds_toArray, List.set_cons_zero, List.set_cons_succ]
            refine wpAnyX_take3 (i := 4) (v := ?_) rfl (by kernel_rfl) (by kernel_rfl) (by kernel_rfl) (by kernel_rfl) (fun _ _ _ h => h) (Or.inl ⟨by rfl, ?_⟩) (by assumption) ?_
            rotate_left 1
            · intro w hSw; (try dsimp only at hSw); go_split_ands; (first | (go_simp; done) | (go_simp; with_reducible rfl))
            try simp only [Act.put, List.getElem_toArray, List.getElem_cons_zero, List.getElem_cons_succ, List.setIfInBounds_toArray, List.set_cons_zero, List.set_cons_succ]
            refine wpAnyX_take3 (i := 5) (v := ?_) rfl (by kernel_rfl) (by kernel_rfl) (by kernel_rfl) (by kernel_rfl) (fun _ _ _ h => h) (Or.inl ⟨by rfl, ?_⟩) (by assumption) ?_
            rotate_left 1
            · intro w hSw; (try dsimp only at hSw); go_split_ands; (first | (go_simp; done) | (go_simp; with_reducible rfl))
            try simp only [Act.put, List.getElem_toArray, List.getElem_cons_zero, List.getElem_cons_succ, List.setIfInBounds_toArray, List.set_cons_zero, List.set_cons_succ]
            refine wpAnyX_take3 (i := 6) (v := ?_) rfl (by kernel_rfl) (by kernel_rfl) (by kernel_rfl) (by kernel_rfl) (fun _ _ _ h => h) (Or.inl ⟨by rfl, ?_⟩) (by assumption) ?_
            rotate_left 1
            · intro w hSw; (try dsimp only at hSw); go_split_ands; (first | (go_simp; done) | (go_simp; with_reducible rfl))
            try simp only [Act.put, List.getElem_toArray, List.getElem_cons_zero, List.getElem_cons_succ, List.setIfInBounds_toArray, List.set_cons_zero, List.set_cons_succ]
            refine wpAnyX_take3 (i := 7) (v := ?_) rfl (by kernel_rfl) (by kernel_rfl) (by kernel_rfl) (by kernel_rfl) (fun _ _ _ h => h) (Or.inl ⟨by rfl, ?_⟩) (by assumption) ?_
            rotate_left 1
            · intro w hSw; (try dsimp only at hSw); go_split_ands; (first | (go_simp; done) | (go_simp; with_reducible rfl))
            try simp only [Act.put, List.getElem_toArray, List.getElem_cons_zero, List.getElem_cons_succ, List.setIfInBounds_toArray, List.set_cons_zero, List.set_cons_succ]
            refine wpAnyX_take3 (i := 8) (v := ?_) rfl (by kernel_rfl) (by kernel_rfl) (by kernel_rfl) (by kernel_rfl) (fun _ _ _ h => h) (Or.inl ⟨by rfl, ?_⟩) (by assumption) ?_
            rotate_left 1
            · intro w hSw; (try dsimp only at hSw); go_split_ands; (first | (go_simp; done) | (go_simp; with_reducible rfl))
            try simp only [Act.put, List.getElem_toArray, List.getElem_cons_zero, List.getElem_cons_succ, List.setIfInBounds_toArray, List.set_cons_zero, List.set_cons_succ]
            refine wpAnyX_take3 (i := 9) (v := ?_) rfl (by kernel_rfl) (by kernel_rfl) (by kernel_rfl) (by kernel_rfl) (fun _ _ _ h => h) (Or.inl ⟨by rfl, ?_⟩) (by assumption) ?_
            rotate_left 1
            · intro w hSw; (try dsimp only at hSw); go_split_ands; (first | (go_simp; done) | (go_simp; with_reducible rfl))
            try simp only [Act.put, List.getElem_toArray, List.getElem_cons_zero, List.getElem_cons_succ, List.setIfInBounds_toArray, List.set_cons_zero, List.set_cons_succ]
            refine wpAnyX_take3 (i := 10) (v := ?_) rfl (by kernel_rfl) (by kernel_rfl) (by kernel_rfl) (by kernel_rfl) (fun _ _ _ h => h) (Or.inl ⟨by rfl, ?_⟩) (by assumption) ?_
            rotate_left 1
            · intro w hSw; (try dsimp only at hSw); go_split_ands; (first | (go_simp; done) | (go_simp; with_reducible rfl))
            try simp only [Act.put, List.getElem_toArray, List.getElem_cons_zero, List.getElem_cons_succ, List.setIfInBounds_toArray, List.set_cons_zero, List.set_cons_succ]
            refine wpAnyX_take3 (i := 11) (v := ?_) rfl (by kernel_rfl) (by kernel_rfl) (by kernel_rfl) (by kernel_rfl) (fun _ _ _ h => h) (Or.inl ⟨by rfl, ?_⟩) (by assumption) ?_
            rotate_left 1
            · intro w hSw; (try dsimp only at hSw); go_split_ands; (first | (go_simp; done) | (go_simp; with_reducible rfl))
            try simp only [Act.put, List.getElem_toArray, List.getElem_cons_zero, List.getElem_cons_succ, List.setIfInBounds_toArray, List.set_cons_zero, List.set_cons_succ]
            refine wpAnyX_take3 (i := 12) (v := ?_) rfl (by kernel_rfl) (by kernel_rfl) (by kernel_rfl) (by kernel_rfl) (fun _ _ _ h => h) (Or.inl ⟨by rfl, ?_⟩) (by assumption) ?_
            rotate_left 1
            · intro w hSw; (try dsimp only at hSw); go_split_ands; (first | (go_simp; done) | (go_simp; with_reducible rfl))
            try simp only [Act.put, List.getElem_toArray, List.getElem_cons_zero, List.getElem_cons_succ, List.setIfInBounds_toArray, List.set_cons_zero, List.set_cons_succ]
            refine wpAnyX_take3 (i := 13) (v := ?_) rfl (by kernel_rfl) (by kernel_rfl) (by kernel_rfl) (by kernel_rfl) (fun _ _ _ h => h) (Or.inl ⟨by rfl, ?_⟩) (by assumption) ?_
            rotate_left 1
            · intro w hSw; (try dsimp only at hSw); go_split_ands; (first | (go_simp; done) | (go_simp; with_reducible rfl))
            try simp only [Act.put, List.getElem_toArray, List.getElem_cons_zero, List.getElem_cons_succ, List.setIfInBounds_toArray, List.set_cons_zero, List.set_cons_succ]
            refine wpAnyX_take3 (i := 14) (v := ?_) rfl (by kernel_rfl) (by kernel_rfl) (by kernel_rfl) (by kernel_rfl) (fun _ _ _ h => h) (Or.inl ⟨by rfl, ?_⟩) (by assumption) ?_
            rotate_left 1
            · intro w hSw; (try dsimp only at hSw); go_split_ands; (first | (go_simp; done) | (go_simp; with_reducible rfl))
            try simp only [Act.put, List.getElem_toArray, List.getElem_cons_zero, List.getElem_cons_succ, List.setIfInBounds_toArray, List.set_cons_zero, List.set_cons_succ]
            refine wpAnyX_take3 (i := 15) (v := ?_) rfl (by kernel_rfl) (by kernel_rfl) (by kernel_rfl) (by kernel_rfl) (fun _ _ _ h => h) (Or.inl ⟨by rfl, ?_⟩) (by assumption) ?_
            rotate_left 1
            · intro w hSw; (try dsimp only at hSw); go_split_ands; (first | (go_simp; done) | (go_simp; with_reducible rfl))
            try simp only [Act.put, List.getElem_toArray, List.getElem_cons_zero, List.getElem_cons_succ, List.setIfInBounds_toArray, List.set_cons_zero, List.set_cons_succ]
            refine wpAnyX_take3 (i := 16) (v := ?_) rfl (by kernel_rfl) (by kernel_rfl) (by kernel_rfl) (by kernel_rfl) (fun _ _ _ h => h) (Or.inl ⟨by rfl, ?_⟩) (by assumption) ?_
            rotate_left 1
            · intro w hSw; (try dsimp only at hSw); go_split_ands; (first | (go_simp; done) | (go_simp; with_reducible rfl))
            try simp only [Act.put, List.getElem_toArray, List.getElem_cons_zero, List.getElem_cons_succ, List.setIfInBounds_toArray, List.set_cons_zero, List.set_cons_succ]
            refine wpAnyX_take3 (i := 17) (v := ?_) rfl (by kernel_rfl) (by kernel_rfl) (by kernel_rfl) (by kernel_rfl) (fun _ _ _ h => h) (Or.inl ⟨by rfl, ?_⟩) (by assumption) ?_
            rotate_left 1
            · intro w hSw; (try dsimp only at hSw); go_split_ands; (first | (go_simp; done) | (go_simp; with_reducible rfl))
            try simp only [Act.put, List.getElem_toArray, List.getElem_cons_zero, List.getElem_cons_succ, List.setIfInBounds_toArray, List.set_cons_zero, List.set_cons_succ]
            refine wpAnyX_take3 (i := 18) (v := ?_) rfl (by kernel_rfl) (by kernel_rfl) (by kernel_rfl) (by kernel_rfl) (fun _ _ _ h => h) (Or.inl ⟨by rfl, ?_⟩) (by assumption) ?_
            rotate_left 1
            · intro w hSw; (try dsimp only at hSw); go_split_ands; (first | (go_simp; done) | (go_simp; with_reducible rfl))
            try simp only [Act.put, List.getElem_toArray, List.getElem_cons_zero, List.getElem_cons_succ, List.setIfInBounds_toArray, List.set_cons_zero, List.set_cons_succ]
            refine wpAnyX_take3 (i := 19) (v := ?_) rfl (by kernel_rfl) (by kernel_rfl) (by kernel_rfl) (by kernel_rfl) (fun _ _ _ h => h) (Or.inl ⟨by rfl, ?_⟩) (by assumption) ?_
            rotate_left 1
            · intro w hSw; (try dsimp only at hSw); go_split_ands; (first | (go_simp; done) | (go_simp; with_reducible rfl))
            try simp only [Act.put, List.getElem_toArray, List.getElem_cons_zero, List.getElem_cons_succ, List.setIfInBounds_toArray, List.set_cons_zero, List.set_cons_succ]
            refine wpAnyX_take3 (i := 20) (v := ?_) rfl (by kernel_rfl) (by kernel_rfl) (by kernel_rfl) (by kernel_rfl) (fun _ _ _ h => h) (Or.inl ⟨by rfl, ?_⟩) (by assumption) ?_
            rotate_left 1
            · intro w hSw; (try dsimp only at hSw); go_split_ands; (first | (go_simp; done) | (go_simp; with_reducible rfl))
            try simp only [Act.put, List.getElem_toArray, List.getElem_cons_zero, List.getElem_cons_succ, List.setIfInBounds_toArray, List.set_cons_zero, List.set_cons_succ]
            refine wpAnyX_take3 (i := 21) (v := ?_) rfl (by kernel_rfl) (by kernel_rfl) (by kernel_rfl) (by kernel_rfl) (fun _ _ _ h => h) (Or.inl ⟨by rfl, ?_⟩) (by assumption) ?_
            rotate_left 1
            · intro w hSw; (try dsimp only at hSw); go_split_ands; (first | (go_simp; done) | (go_simp; with_reducible rfl))
            try simp only [Act.put, List.getElem_toArray, List.getElem_cons_zero, List.getElem_cons_succ, List.setIfInBounds_toArray, List.set_cons_zero, List.set_cons_succ]
            refine wpAnyX_take3 (i := 22) (v := ?_) rfl (by kernel_rfl) (by kernel_rfl) (by kernel_rfl) (by kernel_rfl) (fun _ _ _ h => h) (Or.inl ⟨by rfl, ?_⟩) (by assumption) ?_
            rotate_left 1
            · intro w hSw; (try dsimp only at hSw); go_split_ands; (first | (go_simp; done) | (go_simp; with_reducible rfl))
            try simp only [Act.put, List.getElem_toArray, List.getElem_cons_zero, List.getElem_cons_succ, List.setIfInBounds_toArray, List.set_cons_zero, List.set_cons_succ]
            refine wpAnyX_take3 (i := 23) (v := ?_) rfl (by kernel_rfl) (by kernel_rfl) (by kernel_rfl) (by kernel_rfl) (fun _ _ _ h => h) (Or.inl ⟨by rfl, ?_⟩) (by assumption) ?_
            rotate_left 1
            · intro w hSw; (try dsimp only at hSw); go_split_ands; (first | (go_simp; done) | (go_simp; with_reducible rfl))
            try simp only [Act.put, List.getElem_toArray, List.getElem_cons_zero, List.getElem_cons_succ, List.setIfInBounds_toArray, List.set_cons_zero, List.set_cons_succ]
            refine wpAnyX_take3 (i := 24) (v := ?_) rfl (by kernel_rfl) (by kernel_rfl) (by kernel_rfl) (by kernel_rfl) (fun _ _ _ h => h) (Or.inl ⟨by rfl, ?_⟩) (by assumption) ?_
            rotate_left 1
            · intro w hSw; (try dsimp only at hSw); go_split_ands; (first | (go_simp; done) | (go_simp; with_reducible rfl))
            try simp only [Act.put, List.getElem_toArray, List.getElem_cons_zero, List.getElem_cons_succ, List.setIfInBounds_toArray, List.set_cons_zero, List.set_cons_succ]
            refine wpAnyX_take3 (i := 25) (v := ?_) rfl (by kernel_rfl) (by kernel_rfl) (by kernel_rfl) (by kernel_rfl) (fun _ _ _ h => h) (Or.inl ⟨by rfl, ?_⟩) (by assumption) ?_
            rotate_left 1
            · intro w hSw; (try dsimp only at hSw); go_split_ands; (first | (go_simp; done) | (go_simp; with_reducible rfl))
            try simp only [Act.put, List.getElem_toArray, List.getElem_cons_zero, List.getElem_cons_succ, List.setIfInBounds_toArray, List.set_cons_zero, List.set_cons_succ]
            refine wpAnyX_take3 (i := 26) (v := ?_) rfl (by kernel_rfl) (by kernel_rfl) (by kernel_rfl) (by kernel_rfl) (fun _ _ _ h => h) (Or.inl ⟨by rfl, ?_⟩) (by assumption) ?_
            rotate_left 1
            · intro w hSw; (try dsimp only at hSw); go_split_ands; (first | (go_simp; done) | (go_simp; with_reducible rfl))
            try simp only [Act.put, List.getElem_toArray, List.getElem_cons_zero, List.getElem_cons_succ, List.setIfInBounds_toArray, List.set_cons_zero, List.set_cons_succ]
            refine wpAnyX_take3 (i := 27) (v := undef) rfl (by kernel_rfl) (by kernel_rfl) (by kernel_rfl) (by kernel_rfl) (fun _ _ _ h => h) (Or.inr ⟨by rfl, rfl⟩) (by assumption) ?_
            try simp only [Act.put, List.getElem_toArray, List.getElem_cons_zero, List.getElem_cons_succ, List.setIfInBounds_toArray, List.set_cons_zero, List.set_cons_succ]
            refine wpAnyX_take3 (i := 28) (v := undef) rfl (by kernel_rfl) (by kernel_rfl) (by kernel_rfl) (by kernel_rfl) (fun _ _ _ h => h) (Or.inr ⟨by rfl, rfl⟩) (by assumption) ?_
            try simp only [Act.put, List.getElem_toArray, List.getElem_cons_zero, List.getElem_cons_succ, List.setIfInBounds_toArray, List.set_cons_zero, List.set_cons_succ]
            refine wpAnyX_take3 (i := 29) (v := undef) rfl (by kernel_rfl) (by kernel_rfl) (by kernel_rfl) (by kernel_rfl) (fun _ _ _ h => h) (Or.inr ⟨by rfl, rfl⟩) (by assumption) ?_
            try simp only [Act.put, List.getElem_toArray, List.getElem_cons_zero, List.getElem_cons_succ, List.setIfInBounds_toArray, List.set_cons_zero, List.set_cons_succ]
            refine wpAnyX_take3 (i := 30) (v := ?_) rfl (by kernel_rfl) (by kernel_rfl) (by kernel_rfl) (by kernel_rfl) (fun _ _ _ h => h) (Or.inl ⟨by rfl, ?_⟩) (by assumption) ?_
            rotate_left 1
            · intro w hSw; (try dsimp only at hSw); go_split_ands; (first | (go_simp; done) | (go_simp; with_reducible rfl))
            try simp only [Act.put, List.getElem_toArray, List.getElem_cons_zero, List.getElem_cons_succ, List.setIfInBounds_toArray, List.set_cons_zero, List.set_cons_succ]
            clear hS0
            refine wpAnyX_done (by kernel_rfl) ?_ _
            gi_wp2_with fail
            exact ⟨HLV.out.1, HRB.out HBAD.out, HLV.out.2⟩
        have d3 : decide ((i1 : Int) ≥ (av.length : Int)) = false := decide_eq_false (by omega)
        have e3 : decide (av.length ≤ i1) = false := decide_eq_false (by omega)
        have d6 : (i1 : Int) < (av.length : Int) := by omega
        refine wpIn_region_X (fun W' => W'.cell? ⟨X.heap.size, 0, none⟩ = some (.int .i64 (i0 : Int)) ∧ W'.cell? ⟨X.heap.size, 1, none⟩ = some (.int .i64 (i1 : Int)) ∧ W'.cell? ⟨X.heap.size, 2, none⟩ = some (.int .i64 t.f2) ∧ W'.cell? ⟨X.heap.size, 3, none⟩ = some (.int .i64 t.f3) ∧ W'.cell? ⟨X.heap.size, 4, none⟩ = some (.int .i64 t.f4) ∧ W'.cell? ⟨X.heap.size, 5, none⟩ = some (.int .i64 t.f5) ∧ W'.cell? ⟨X.heap.size, 6, none⟩ = some (.int .i64 t.f6) ∧ W'.cell? ⟨X.heap.size, 7, none⟩ = some (.bool t.f7) ∧ W'.cell? ⟨X.heap.size, 8, none⟩ = some (.slice A8 t.f8.length c8) ∧ W'.cell? ⟨w.heap.size, 0, none⟩ = some (.slice A l.length c) ∧ W'.cell? ⟨w.heap.size + 1, 0, none⟩ = some (.slice (some ad) all.length cb) ∧ W'.cell? (ad.add i0) = some (.slice A1 av.length c1)) [] (by kernel_rfl) (by kernel_rfl) (by rintro ⟨a', w', h'⟩; rcases h'.2 with ⟨h', _⟩ | ⟨h', _⟩ <;> cases h') ?_
        have hS0 : Y.drew.cell? ⟨X.heap.size, 0, none⟩ = some (.int .i64 (i0 : Int)) ∧ Y.drew.cell? ⟨X.heap.size, 1, none⟩ = some (.int .i64 (i1 : Int)) ∧ Y.drew.cell? ⟨X.heap.size, 2, none⟩ = some (.int .i64 t.f2) ∧ Y.drew.cell? ⟨X.heap.size, 3, none⟩ = some (.int .i64 t.f3) ∧ Y.drew.cell? ⟨X.heap.size, 4, none⟩ = some (.int .i64 t.f4) ∧ Y.drew.cell? ⟨X.heap.size, 5, none⟩ = some (.int .i64 t.f5) ∧ Y.drew.cell? ⟨X.heap.size, 6, none⟩ = some (.int .i64 t.f6) ∧ Y.drew.cell? ⟨X.heap.size, 7, none⟩ = some (.bool t.f7) ∧ Y.drew.cell? ⟨X.heap.size, 8, none⟩ = some (.slice A8 t.f8.length c8) ∧ Y.drew.cell? ⟨w.heap.size, 0, none⟩ = some (.slice A l.length c) ∧ Y.drew.cell? ⟨w.heap.size + 1, 0, none⟩ = some (.slice (some ad) all.length cb) ∧ Y.drew.cell? (ad.add i0) = some (.slice A1 av.length c1) := ⟨p0, p1, p2, p3, p4, p5, p6, p7, p8, b0, b1, x1⟩
        refine wpAnyX_take3 (i := 0) (v := ?_) rfl (by kernel_rfl) (by kernel_rfl) (by kernel_rfl) (by kernel_rfl) (fun _ _ _ h => h) (Or.inl ⟨by rfl, ?_⟩) (by assumption) ?_
        rotate_left 1
        · intro w hSw; (try dsimp only at hSw); go_split_ands; (first | (go_simp; done) | (go_simp; with_reducible rfl))
        try simp only [Act.put, List.getElem_toArray, List.getElem_cons_zero, List.getElem_cons_succ, List.setIfInBounds_toArray, List.set_cons_zero, List.set_cons_succ]
        refine wpAnyX_take3 (i := 1) (v := ?_) rfl (by kernel_rfl) (by kernel_rfl) (by kernel_rfl) (by kernel_rfl) (fun _ _ _ h => h) (Or.inl ⟨by rfl, ?_⟩) (by assumption) ?_
        rotate_left 1
        · intro w hSw; (try dsimp only at hSw); go_split_ands; (first | (go_simp; done) | (go_simp; with_reducible rfl))
        try simp only [Act.put, List.getElem_toArray, List.getElem_cons_zero, List.getElem_cons_succ, List.setIfInBounds_toArray, List.set_cons_zero, List.set_cons_succ]
        refine wpAnyX_take3 (i := 2) (v := ?_) rfl (by kernel_rfl) (by kernel_rfl) (by kernel_rfl) (by kernel_rfl) (fun _ _ _ h => h) (Or.inl ⟨by rfl, ?_⟩) (by assumption) ?_
        rotate_left 1
        · intro w hSw; (try dsimp only at hSw); go_split_ands; (first | (go_simp; done) | (go_simp; with_reducible rfl))
        try simp only [Act.put, List.getElem_toArray, List.getElem_cons_zero, List.getElem_cons_succ, List.setIfInBounds_toArray, List.set_cons_zero, List.set_cons_succ]
        refine wpAnyX_take3 (i := 3) (v := ?_) rfl (by kernel_rfl) (by kernel_rfl) (by kernel_rfl) (by kernel_rfl) (fun _ _ _ h => h) (Or.inl ⟨by rfl, ?_⟩) (by assumption) ?_
        rotate_left 1
        · intro w hSw; (try dsimp only at hSw); go_split_ands; (first | (go_simp; done) | (go_simp; with_reducible rfl))
        try simp only [Act.put, List.getElem_toArray, List.getElem_cons_zero, List.getElem_cons_succ, List.setIfInBounds_toArray, List.set_cons_zero, List.set_cons_succ]
        refine wpAnyX_take3 (i := 4) (v := ?_) rfl (by kernel_rfl) (by kernel_rfl) (by kernel_rfl) (by kernel_rfl) (fun _ _ _ h => h) (Or.inl ⟨by rfl, ?_⟩) (by assumption) ?_
        rotate_left 1
        · intro w hSw; (try dsimp only at hSw); go_split_ands; (first | (go_simp; done) | (go_simp; with_reducible rfl))
        try simp only [Act.put, List.getElem_toArray, List.getElem_cons_zero, List.getElem_cons_succ, List.setIfInBounds_toArray, List.set_cons_zero, List.set_cons_succ]
        refine wpAnyX_take3 (i := 5) (v := ?_) rfl (by kernel_rfl) (by kernel_rfl) (by kernel_rfl) (by kernel_rfl) (fun _ _ _ h => h) (Or.inl ⟨by rfl, ?_⟩) (by assumption) ?_
        rotate_left 1
        · intro w hSw; (try dsimp only at hSw); go_split_ands; (first | (go_simp; done) | (go_simp; with_reducible rfl))
        try simp only [Act.put, List.getElem_toArray, List.getElem_cons_zero, List.getElem_cons_succ, List.setIfInBounds_toArray, List.set_cons_zero, List.set_cons_succ]
        refine wpAnyX_take3 (i := 6) (v := ?_) rfl (by kernel_rfl) (by kernel_rfl) (by kernel_rfl) (by kernel_rfl) (fun _ _ _ h => h) (Or.inl ⟨by rfl, ?_⟩) (by assumption) ?_
        rotate_left 1
        · intro w hSw; (try dsimp only at hSw); go_split_ands; (first | (go_simp; done) | (go_simp; with_reducible rfl))
        try simp only [Act.put, List.getElem_toArray, List.getElem_cons_zero, List.getElem_cons_succ, List.setIfInBounds_toArray, List.set_cons_zero, List.set_cons_succ]
        refine wpAnyX_take3 (i := 7) (v := ?_) rfl (by kernel_rfl) (by kernel_rfl) (by kernel_rfl) (by kernel_rfl) (fun _ _ _ h => h) (Or.inl ⟨by rfl, ?_⟩) (by assumption) ?_
        rotate_left 1
        · intro w hSw; (try dsimp only at hSw); go_split_ands; (first | (go_simp; done) | (go_simp; with_reducible rfl))
        try simp only [Act.put, List.getElem_toArray, List.getElem_cons_zero, List.getElem_cons_succ, List.setIfInBounds_toArray, List.set_cons_zero, List.set_cons_succ]
        refine wpAnyX_take3 (i := 8) (v := ?_) rfl (by kernel_rfl) (by kernel_rfl) (by kernel_rfl) (by kernel_rfl) (fun _ _ _ h => h) (Or.inl ⟨by rfl, ?_⟩) (by assumption) ?_
        rotate_left 1
        · intro w hSw; (try dsimp only at hSw); go_split_ands; (first | (go_simp; done) | (go_simp; with_reducible rfl))
        try simp only [Act.put, List.getElem_toArray, List.getElem_cons_zero, List.getElem_cons_succ, List.setIfInBounds_toArray, List.set_cons_zero, List.set_cons_succ]
        refine wpAnyX_take3 (i := 9) (v := ?_) rfl (by kernel_rfl) (by kernel_rfl) (by kernel_rfl) (by kernel_rfl) (fun _ _ _ h => h) (Or.inl ⟨by rfl, ?_⟩) (by assumption) ?_
        rotate_left 1
        · intro w hSw; (try dsimp only at hSw); go_split_ands; (first | (go_simp; done) | (go_simp; with_reducible rfl))
        try simp only [Act.put, List.getElem_toArray, List.getElem_cons_zero, List.getElem_cons_succ, List.setIfInBounds_toArray, List.set_cons_zero, List.set_cons_succ]
        refine wpAnyX_take3 (i := 10) (v := ?_) rfl (by kernel_rfl) (by kernel_rfl) (by kernel_rfl) (by kernel_rfl) (fun _ _ _ h => h) (Or.inl ⟨by rfl, ?_⟩) (by assumption) ?_
        rotate_left 1
        · intro w hSw; (try dsimp only at hSw); go_split_ands; (first | (go_simp; done) | (go_simp; with_reducible rfl))
        try simp only [Act.put, List.getElem_toArray, List.getElem_cons_zero, List.getElem_cons_succ, List.setIfInBounds_toArray, List.set_cons_zero, List.set_cons_succ]
        refine wpAnyX_take3 (i := 11) (v := ?_) rfl (by kernel_rfl) (by kernel_rfl) (by kernel_rfl) (by kernel_rfl) (fun _ _ _ h => h) (Or.inl ⟨by rfl, ?_⟩) (by assumption) ?_
        rotate_left 1
        · intro w hSw; (try dsimp only at hSw); go_split_ands; (first | (go_simp; done) | (go_simp; with_reducible rfl))
        try simp only [Act.put, List.getElem_toArray, List.getElem_cons_zero, List.getElem_cons_succ, List.setIfInBounds_toArray, List.set_cons_zero, List.set_cons_succ]
        refine wpAnyX_take3 (i := 12) (v := ?_) rfl (by kernel_rfl) (by kernel_rfl) (by kernel_rfl) (by kernel_rfl) (fun _ _ _ h => h) (Or.inl ⟨by rfl, ?_⟩) (by assumption) ?_
        rotate_left 1
        · intro w hSw; (try dsimp only at hSw); go_split_ands; (first | (go_simp; done) | (go_simp; with_reducible rfl))
        try simp only [Act.put, List.getElem_toArray, List.getElem_cons_zero, List.getElem_cons_succ, List.setIfInBounds_toArray, List.set_cons_zero, List.set_cons_succ]
        refine wpAnyX_take3 (i := 13) (v := ?_) rfl (by kernel_rfl) (by kernel_rfl) (by kernel_rfl) (by kernel_rfl) (fun _ _ _ h => h) (Or.inl ⟨by rfl, ?_⟩) (by assumption) ?_
        rotate_left 1
        · intro w hSw; (try dsimp only at hSw); go_split_ands; (first | (go_simp; done) | (go_simp; with_reducible rfl))
        try simp only [Act.put, List.getElem_toArray, List.getElem_cons_zero, List.getElem_cons_succ, List.setIfInBounds_toArray, List.set_cons_zero, List.set_cons_succ]
        refine wpAnyX_take3 (i := 14) (v := ?_) rfl (by kernel_rfl) (by kernel_rfl) (by kernel_rfl) (by kernel_rfl) (fun _ _ _ h => h) (Or.inl ⟨by rfl, ?_⟩) (by assumption) ?_
        rotate_left 1
        · intro w hSw; (try dsimp only at hSw); go_split_ands; (first | (go_simp; done) | (go_simp; with_reducible rfl))
        try simp only [Act.put, List.getElem_toArray, List.getElem_cons_zero, List.getElem_cons_succ, List.setIfInBounds_toArray, List.set_cons_zero, List.set_cons_succ]
        refine wpAnyX_take3 (i := 15) (v := ?_) rfl (by kernel_rfl) (by kernel_rfl) (by kernel_rfl) (by kernel_rfl) (fun _ _ _ h => h) (Or.inl ⟨by rfl, ?_⟩) (by assumption) ?_
        rotate_left 1
        · intro w hSw; (try dsimp only at hSw); go_split_ands; (first | (go_simp; done) | (go_simp; with_reducible rfl))
        try simp only [Act.put, List.getElem_toArray, List.getElem_cons_zero, List.getElem_cons_succ, List.setIfInBounds_toArray, List.set_cons_zero, List.set_cons_succ]
        refine wpAnyX_take3 (i := 16) (v := ?_) rfl (by kernel_rfl) (by kernel_rfl) (by kernel_rfl) (by kernel_rfl) (fun _ _ _ h => h) (Or.inl ⟨by rfl, ?_⟩) (by assumption) ?_
        rotate_left 1
        · intro w hSw; (try dsimp only at hSw); go_split_ands; (first | (go_simp; done) | (go_simp; with_reducible rfl))
        try simp only [Act.put, List.getElem_toArray, List.getElem_cons_zero, List.getElem_cons_succ, List.setIfInBounds_toArray, List.set_cons_zero, List.set_cons_succ]
        refine wpAnyX_take3 (i := 17) (v := ?_) rfl (by kernel_rfl) (by kernel_rfl) (by kernel_rfl) (by kernel_rfl) (fun _ _ _ h => h) (Or.inl ⟨by rfl, ?_⟩) (by assumption) ?_
        rotate_left 1
        · intro w hSw; (try dsimp only at hSw); go_split_ands; (first | (go_simp; done) | (go_simp; with_reducible rfl))
        try simp only [Act.put, List.getElem_toArray, List.getElem_cons_zero, List.getElem_cons_succ, List.setIfInBounds_toArray, List.set_cons_zero, List.set_cons_succ]
        refine wpAnyX_take3 (i := 18) (v := ?_) rfl (by kernel_rfl) (by kernel_rfl) (by kernel_rfl) (by kernel_rfl) (fun _ _ _ h => h) (Or.inl ⟨by rfl, ?_⟩) (by assumption) ?_
        rotate_left 1
        · intro w hSw; (try dsimp only at hSw); go_split_ands; (first | (go_simp; done) | (go_simp; with_reducible rfl))
        try simp only [Act.put, List.getElem_toArray, List.getElem_cons_zero, List.getElem_cons_succ, List.setIfInBounds_toArray, List.set_cons_zero, List.set_cons_succ]
        refine wpAnyX_take3 (i := 19) (v := ?_) rfl (by kernel_rfl) (by kernel_rfl) (by kernel_rfl) (by kernel_rfl) (fun _ _ _ h => h) (Or.inl ⟨by rfl, ?_⟩) (by assumption) ?_
        rotate_left 1
        · intro w hSw; (try dsimp only at hSw); go_split_ands; (first | (go_simp; done) | (go_simp; with_reducible rfl))
        try simp only [Act.put, List.getElem_toArray, List.getElem_cons_zero, List.getElem_cons_succ, List.setIfInBounds_toArray, List.set_cons_zero, List.set_cons_succ]
        refine wpAnyX_take3 (i := 20) (v := ?_) rfl (by kernel_rfl) (by kernel_rfl) (by kernel_rfl) (by kernel_rfl) (fun _ _ _ h => h) (Or.inl ⟨by rfl, ?_⟩) (by assumption) ?_
        rotate_left 1
        · intro w hSw; (try dsimp only at hSw); go_split_ands; (first | (go_simp; done) | (go_simp; with_reducible rfl))
        try simp only [Act.put, List.getElem_toArray, List.getElem_cons_zero, List.getElem_cons_succ, List.setIfInBounds_toArray, List.set_cons_zero, List.set_cons_succ]
        refine wpAnyX_take3 (i := 21) (v := ?_) rfl (by kernel_rfl) (by kernel_rfl) (by kernel_rfl) (by kernel_rfl) (fun _ _ _ h => h) (Or.inl ⟨by rfl, ?_⟩) (by assumption) ?_
        rotate_left 1
        · intro w hSw; (try dsimp only at hSw); go_split_ands; (first | (go_simp; done) | (go_simp; with_reducible rfl))
        try simp only [Act.put, List.getElem_toArray, List.getElem_cons_zero, List.getElem_cons_succ, List.setIfInBounds_toArray, List.set_cons_zero, List.set_cons_succ]
        refine wpAnyX_take3 (i := 22) (v := ?_) rfl (by kernel_rfl) (by kernel_rfl) (by kernel_rfl) (by kernel_rfl) (fun _ _ _ h => h) (Or.inl ⟨by rfl, ?_⟩) (by assumption) ?_
        rotate_left 1
        · intro w hSw; (try dsimp only at hSw); go_split_ands; (first | (go_simp; done) | (go_simp; with_reducible rfl))
        try simp only [Act.put, List.getElem_toArray, List.getElem_cons_zero, List.getElem_cons_succ, List.setIfInBounds_toArray, List.set_cons_zero, List.set_cons_succ]
        refine wpAnyX_take3 (i := 23) (v := ?_) rfl (by kernel_rfl) (by kernel_rfl) (by kernel_rfl) (by kernel_rfl) (fun _ _ _ h => h) (Or.inl ⟨by rfl, ?_⟩) (by assumption) ?_
        rotate_left 1
        · intro w hSw; (try dsimp only at hSw); go_split_ands; (first | (go_simp; done) | (go_simp; with_reducible rfl))
        try simp only [Act.put, List.getElem_toArray, List.getElem_cons_zero, List.getElem_cons_succ, List.setIfInBounds_toArray, List.set_cons_zero, List.set_cons_succ]
        refine wpAnyX_take3 (i := 24) (v := ?_) rfl (by kernel_rfl) (by kernel_rfl) (by kernel_rfl) (by kernel_rfl) (fun _ _ _ h => h) (Or.inl ⟨by rfl, ?_⟩) (by assumption) ?_
        rotate_left 1
        · intro w hSw; (try dsimp only at hSw); go_split_ands; (first | (go_simp; done) | (go_simp; with_reducible rfl))
        try simp only [Act.put, List.getElem_toArray, List.getElem_cons_zero, List.getElem_cons_succ, List.setIfInBounds_toArray, List.set_cons_zero, List.set_cons_succ]
        refine wpAnyX_take3 (i := 25) (v := ?_) rfl (by kernel_rfl) (by kernel_rfl) (by kernel_rfl) (by kernel_rfl) (fun _ _ _ h => h) (Or.inl ⟨by rfl, ?_⟩) (by assumption) ?_
        rotate_left 1
        · intro w hSw; (try dsimp only at hSw); go_split_ands; (first | (go_simp; done) | (go_simp; with_reducible rfl))
        try simp only [Act.put, List.getElem_toArray, List.getElem_cons_zero, List.getElem_cons_succ, List.setIfInBounds_toArray, List.set_cons_zero, List.set_cons_succ]
        refine wpAnyX_take3 (i := 26) (v := ?_) rfl (by kernel_rfl) (by kernel_rfl) (by kernel_rfl) (by kernel_rfl) (fun _ _ _ h => h) (Or.inl ⟨by rfl, ?_⟩) (by assumption) ?_
        rotate_left 1
        · intro w hSw; (try dsimp only at hSw); go_split_ands; (first | (go_simp; done) | (go_simp; with_reducible rfl))
        try simp only [Act.put, List.getElem_toArray, List.getElem_cons_zero, List.getElem_cons_succ, List.setIfInBounds_toArray, List.set_cons_zero, List.set_cons_succ]
        refine wpAnyX_take3 (i := 27) (v := ?_) rfl (by kernel_rfl) (by kernel_rfl) (by kernel_rfl) (by kernel_rfl) (fun _ _ _ h => h) (Or.inl ⟨by rfl, ?_⟩) (by assumption) ?_
        rotate_left 1
        · intro w hSw; (try dsimp only at hSw); go_split_ands; (first | (go_simp; done) | (go_simp; with_reducible rfl))
        try simp only [Act.put, List.getElem_toArray, List.getElem_cons_zero, List.getElem_cons_succ, List.setIfInBounds_toArray, List.set_cons_zero, List.set_cons_succ]
        refine wpAnyX_take3 (i := 28) (v := ?_) rfl (by kernel_rfl) (by kernel_rfl) (by kernel_rfl) (by kernel_rfl) (fun _ _ _ h => h) (Or.inl ⟨by rfl, ?_⟩) (by assumption) ?_
        rotate_left 1
        · intro w hSw; (try dsimp only at hSw); go_split_ands; (first | (go_simp; done) | (go_simp; with_reducible rfl))
        try simp only [Act.put, List.getElem_toArray, List.getElem_cons_zero, List.getElem_cons_succ, List.setIfInBounds_toArray, List.set_cons_zero, List.set_cons_succ]
        obtain ⟨rb, hrb⟩ : ∃ rb, l.any (relB t) = rb := ⟨_, rfl⟩
        rw [hrb] at HRL HOK
        clear hrb
        have HY0 := Veil.mk (Below.refl Y.heap.size Y).drew
        refine wpAnyX_one (i := 29) (by kernel_rfl) rfl (fun K hK => ?_)
        go_simp
        refine (HRL.out _ (HB0.out.box.below.trans (HY0.out.mono HB0.out.box.below.size))).mono ?_
        rintro e8 w7 ⟨rfl, hb7⟩
        have HX7 := Veil.mk (HY0.out.trans hb7)
        have eC : ∀ o v, Y.cell? o = some v → w7.cell? o = some v := fun o v hv => (HX7.out.cell (p := o) (World.block_lt_of_cell? Y _ hv)).trans hv
        have hS7 : w7.cell? ⟨X.heap.size, 0, none⟩ = some (.int .i64 (i0 : Int)) ∧ w7.cell? ⟨X.heap.size, 1, none⟩ = some (.int .i64 (i1 : Int)) ∧ w7.cell? ⟨X.heap.size, 2, none⟩ = some (.int .i64 t.f2) ∧ w7.cell? ⟨X.heap.size, 3, none⟩ = some (.int .i64 t.f3) ∧ w7.cell? ⟨X.heap.size, 4, none⟩ = some (.int .i64 t.f4) ∧ w7.cell? ⟨X.heap.size, 5, none⟩ = some (.int .i64 t.f5) ∧ w7.cell? ⟨X.heap.size, 6, none⟩ = some (.int .i64 t.f6) ∧ w7.cell? ⟨X.heap.size, 7, none⟩ = some (.bool t.f7) ∧ w7.cell? ⟨X.heap.size, 8, none⟩ = some (.slice A8 t.f8.length c8) ∧ w7.cell? ⟨w.heap.size, 0, none⟩ = some (.slice A l.length c) ∧ w7.cell? ⟨w.heap.size + 1, 0, none⟩ = some (.slice (some ad) all.length cb) ∧ w7.cell? (ad.add i0) = some (.slice A1 av.length c1) := ⟨eC _ _ p0, eC _ _ p1, eC _ _ p2, eC _ _ p3, eC _ _ p4, eC _ _ p5, eC _ _ p6, eC _ _ p7, eC _ _ p8, eC _ _ b0, eC _ _ b1, eC _ _ x1⟩
        have r7 := eC _ _ r0
        have f7 : w7.frozen? ⟨w.heap.size + 1 + 1, 0, none⟩ = false := (HX7.out.frozen (p := ⟨w.heap.size + 1 + 1, 0, none⟩) (World.block_lt_of_cell? Y _ r0)).trans f0
        have HB7 := Veil.mk (HB0.out.step HX7.out)
        clear hS0 hb7 eC p0 p1 p2 p3 p4 p5 p6 p7 p8 b0 b1 x1 r0 f0
        dsimp only
        refine hK.out _ _ (fun _ => hS7) ?_
        clear hK K
        try simp only [Act.put, List.getElem_toArray, List.getElem_cons_zero, List.getElem_cons_succ, List.setIfInBounds_toArray, List.set_cons_zero, List.set_cons_succ]
        cases rb with
        | true => as_aux_lemma =>
          have HBAD : Veil (okRun first l all k t = false) := ⟨by rw [HOK.out]; simp⟩
          have HLV7 := Veil.mk (RunB.leave HJ.out HB7.out)
          refine wpAnyX_take3 (i := 30) (v := ?_) rfl (by kernel_rfl) (by kernel_rfl) (by kernel_rfl) (by kernel_rfl) (fun _ _ _ h => h) (Or.inl ⟨by rfl, ?_⟩) (by assumption) ?_
          rotate_left 1
          · intro w hSw; (try dsimp only at hSw); go_split_ands; (first | (go_simp; done) | (go_simp; with_reducible rfl))
          try simp only [Act.put, List.getElem_toArray, List.getElem_cons_zero, List.getElem_cons_succ, List.setIfInBounds_toArray, List.set_cons_zero, List.set_cons_succ]
          clear hS7
          refine wpAnyX_done (by kernel_rfl) ?_ _
          gi_wp2_with fail
          exact ⟨HLV7.out.1, HRB.out HBAD.out, HLV7.out.2⟩
        | false =>
          refine wpAnyX_take3 (i := 30) (v := ?_) rfl (by kernel_rfl) (by kernel_rfl) (by kernel_rfl) (by kernel_rfl) (fun _ _ _ h => h) (Or.inl ⟨by rfl, ?_⟩) (by assumption) ?_
          rotate_left 1
          · intro w hSw; (try dsimp only at hSw); go_split_ands; (first | (go_simp; done) | (go_simp; with_reducible rfl))
          try simp only [Act.put, List.getElem_toArray, List.getElem_cons_zero, List.getElem_cons_succ, List.setIfInBounds_toArray, List.set_cons_zero, List.set_cons_succ]
          refine wpAnyX_done (by kernel_rfl) ?_ _
          gi_wp2_with fail
          obtain ⟨q0, q1, _, _, _, _, _, _, _, _, q2, q3⟩ := hS7
          obtain ⟨ad1, A3, c3, rfl, q4, _, HC3⟩ := ops_at (Kd.C_below HCV.out.1 HX7.out) i1 a3
          have hgo : opsOf all t = av[i1] := (HOP.out a3).trans (by simp [List.getD, a3])
          have hmm := HCV.out.2 _ (List.getElem_mem a3)
          obtain ⟨ov, hov⟩ : ∃ ov, av[i1] = ov := ⟨_, rfl⟩
          rw [hov] at q4 HC3 hgo hmm
          obtain ⟨Aa, ca, hba, hga⟩ := HB7.out.at_
          have q5 := hba.cell 0 _ rfl
          have hgr := hga.read HB7.out.box.below
          have hxl : xs.length ≤ 1000000 := by rw [HFF.out.1]; exact HFL.out
          have hyl : ys.length ≤ 1000000 := by rw [HFF.out.2]; exact HFL.out
          have HYL := Veil.mk hyl
          have HALL : Veil (∀ W, Below w7.heap.size w7 W → _) := ⟨fun W h => alone_any W A3 c3 ov Aa ca xs (Kd.C_below HC3 h) hmm.1 hmm.2 (Kd.C_below hgr h) hxl⟩
          have HOK2 : Veil (okRun first l all k t = (rightO ov xs.length && decide (aloneM ov xs = ys))) := ⟨by rw [HOK.out, HIN.out, hgo, HFF.out.1, decide_eq_true a3]; simp⟩
          have HLN : Veil ((aloneM ov xs).length = ys.length) := ⟨by rw [aloneM_length, HFF.out.1, HFF.out.2]⟩
          clear hgo hmm hov hba hga hgr HC3 hxl hyl HOK HIN HCV HOP HRL
          obtain ⟨rr, hrr⟩ : ∃ rr, rightO ov xs.length = rr := ⟨_, rfl⟩
          rw [hrr] at HALL HOK2
          clear hrr
          refine wpIn_region_X (fun W' => W'.cell? ⟨X.heap.size, 0, none⟩ = some (.int .i64 (i0 : Int)) ∧ W'.cell? ⟨X.heap.size, 1, none⟩ = some (.int .i64 (i1 : Int)) ∧ W'.cell? ⟨w.heap.size + 1, 0, none⟩ = some (.slice (some ad) all.length cb) ∧ W'.cell? (ad.add i0) = some (.slice (some ad1) av.length c1) ∧ W'.cell? (ad1.add i1) = some (.slice A3 ov.length c3) ∧ W'.cell? ⟨bb, 0, none⟩ = some (.slice Aa xs.length ca)) [] (by kernel_rfl) (by kernel_rfl) (by rintro ⟨a', w', h'⟩; rcases h'.2 with ⟨h', _⟩ | ⟨h', _⟩ <;> cases h') ?_
          have hS0 : w7.drew.cell? ⟨X.heap.size, 0, none⟩ = some (.int .i64 (i0 : Int)) ∧ w7.drew.cell? ⟨X.heap.size, 1, none⟩ = some (.int .i64 (i1 : Int)) ∧ w7.drew.cell? ⟨w.heap.size + 1, 0, none⟩ = some (.slice (some ad) all.length cb) ∧ w7.drew.cell? (ad.add i0) = some (.slice (some ad1) av.length c1) ∧ w7.drew.cell? (ad1.add i1) = some (.slice A3 ov.length c3) ∧ w7.drew.cell? ⟨bb, 0, none⟩ = some (.slice Aa xs.length ca) := ⟨q0, q1, q2, q3, q4, q5⟩
          refine wpAnyX_take3 (i := 0) (v := ?_) rfl (by kernel_rfl) (by kernel_rfl) (by kernel_rfl) (by kernel_rfl) (fun _ _ _ h => h) (Or.inl ⟨by rfl, ?_⟩) (by assumption) ?_
          rotate_left 1
          · intro w hSw; (try dsimp only at hSw); go_split_ands; (first | (go_simp; done) | (go_simp; with_reducible rfl))
          try simp only [Act.put, List.getElem_toArray, List.getElem_cons_zero, List.getElem_cons_succ, List.setIfInBounds_toArray, List.set_cons_zero, List.set_cons_succ]
          refine wpAnyX_take3 (i := 1) (v := ?_) rfl (by kernel_rfl) (by kernel_rfl) (by kernel_rfl) (by kernel_rfl) (fun _ _ _ h => h) (Or.inl ⟨by rfl, ?_⟩) (by assumption) ?_
          rotate_left 1
          · intro w hSw; (try dsimp only at hSw); go_split_ands; (first | (go_simp; done) | (go_simp; with_reducible rfl))
          try simp only [Act.put, List.getElem_toArray, List.getElem_cons_zero, List.getElem_cons_succ, List.setIfInBounds_toArray, List.set_cons_zero, List.set_cons_succ]
          refine wpAnyX_take3 (i := 2) (v := ?_) rfl (by kernel_rfl) (by kernel_rfl) (by kernel_rfl) (by kernel_rfl) (fun _ _ _ h => h) (Or.inl ⟨by rfl, ?_⟩) (by assumption) ?_
          rotate_left 1
          · intro w hSw; (try dsimp only at hSw); go_split_ands; (first | (go_simp; done) | (go_simp; with_reducible rfl))
          try simp only [Act.put, List.getElem_toArray, List.getElem_cons_zero, List.getElem_cons_succ, List.setIfInBounds_toArray, List.set_cons_zero, List.set_cons_succ]
          refine wpAnyX_take3 (i := 3) (v := ?_) rfl (by kernel_rfl) (by kernel_rfl) (by kernel_rfl) (by kernel_rfl) (fun _ _ _ h => h) (Or.inl ⟨by rfl, ?_⟩) (by assumption) ?_
          rotate_left 1
          · intro w hSw; (try dsimp only at hSw); go_split_ands; (first | (go_simp; done) | (go_simp; with_reducible rfl))
          try simp only [Act.put, List.getElem_toArray, List.getElem_cons_zero, List.getElem_cons_succ, List.setIfInBounds_toArray, List.set_cons_zero, List.set_cons_succ]
          refine wpAnyX_take3 (i := 4) (v := ?_) rfl (by kernel_rfl) (by kernel_rfl) (by kernel_rfl) (by kernel_rfl) (fun _ _ _ h => h) (Or.inl ⟨by rfl, ?_⟩) (by assumption) ?_
          rotate_left 1
          · intro w hSw; (try dsimp only at hSw); go_split_ands; (first | (go_simp; done) | (go_simp; with_reducible rfl))
          try simp only [Act.put, List.getElem_toArray, List.getElem_cons_zero, List.getElem_cons_succ, List.setIfInBounds_toArray, List.set_cons_zero, List.set_cons_succ]
          refine wpAnyX_take3 (i := 5) (v := ?_) rfl (by kernel_rfl) (by kernel_rfl) (by kernel_rfl) (by kernel_rfl) (fun _ _ _ h => h) (Or.inl ⟨by rfl, ?_⟩) (by assumption) ?_
          rotate_left 1
          · intro w hSw; (try dsimp only at hSw); go_split_ands; (first | (go_simp; done) | (go_simp; with_reducible rfl))
          try simp only [Act.put, List.getElem_toArray, List.getElem_cons_zero, List.getElem_cons_succ, List.setIfInBounds_toArray, List.set_cons_zero, List.set_cons_succ]
          refine wpAnyX_take3 (i := 6) (v := ?_) rfl (by kernel_rfl) (by kernel_rfl) (by kernel_rfl) (by kernel_rfl) (fun _ _ _ h => h) (Or.inl ⟨by rfl, ?_⟩) (by assumption) ?_
          rotate_left 1
          · intro w hSw; (try dsimp only at hSw); go_split_ands; (first | (go_simp; done) | (go_simp; with_reducible rfl))
          try simp only [Act.put, List.getElem_toArray, List.getElem_cons_zero, List.getElem_cons_succ, List.setIfInBounds_toArray, List.set_cons_zero, List.set_cons_succ]
          refine wpAnyX_take3 (i := 7) (v := ?_) rfl (by kernel_rfl) (by kernel_rfl) (by kernel_rfl) (by kernel_rfl) (fun _ _ _ h => h) (Or.inl ⟨by rfl, ?_⟩) (by assumption) ?_
          rotate_left 1
          · intro w hSw; (try dsimp only at hSw); go_split_ands; (first | (go_simp; done) | (go_simp; with_reducible rfl))
          try simp only [Act.put, List.getElem_toArray, List.getElem_cons_zero, List.getElem_cons_succ, List.setIfInBounds_toArray, List.set_cons_zero, List.set_cons_succ]
          refine wpAnyX_take3 (i := 8) (v := ?_) rfl (by kernel_rfl) (by kernel_rfl) (by kernel_rfl) (by kernel_rfl) (fun _ _ _ h => h) (Or.inl ⟨by rfl, ?_⟩) (by assumption) ?_
          rotate_left 1
          · intro w hSw; (try dsimp only at hSw); go_split_ands; (first | (go_simp; done) | (go_simp; with_reducible rfl))
          try simp only [Act.put, List.getElem_toArray, List.getElem_cons_zero, List.getElem_cons_succ, List.setIfInBounds_toArray, List.set_cons_zero, List.set_cons_succ]
          refine wpAnyX_take3 (i := 9) (v := ?_) rfl (by kernel_rfl) (by kernel_rfl) (by kernel_rfl) (by kernel_rfl) (fun _ _ _ h => h) (Or.inl ⟨by rfl, ?_⟩) (by assumption) ?_
          rotate_left 1
          · intro w hSw; (try dsimp only at hSw); go_split_ands; (first | (go_simp; done) | (go_simp; with_reducible rfl))
          try simp only [Act.put, List.getElem_toArray, List.getElem_cons_zero, List.getElem_cons_succ, List.setIfInBounds_toArray, List.set_cons_zero, List.set_cons_succ]
          have HY8 := Veil.mk (Below.refl w7.heap.size w7).drew
          refine wpAnyX_one (i := 10) (by kernel_rfl) rfl (fun K hK => ?_)
          go_simp
          refine (HALL.out _ HY8.out).mono ?_
          rintro e8 w9 ⟨v, rfl, hv1, hv2, hb9⟩
          have HX9 := Veil.mk (HY8.out.trans hb9)
          have eC : ∀ o v, w7.cell? o = some v → w9.cell? o = some v := fun o v hv => (HX9.out.cell (p := o) (World.block_lt_of_cell? w7 _ hv)).trans hv
          have hS9 : w9.cell? ⟨X.heap.size, 0, none⟩ = some (.int .i64 (i0 : Int)) ∧ w9.cell? ⟨X.heap.size, 1, none⟩ = some (.int .i64 (i1 : Int)) ∧ w9.cell? ⟨w.heap.size + 1, 0, none⟩ = some (.slice (some ad) all.length cb) ∧ w9.cell? (ad.add i0) = some (.slice (some ad1) av.length c1) ∧ w9.cell? (ad1.add i1) = some (.slice A3 ov.length c3) ∧ w9.cell? ⟨bb, 0, none⟩ = some (.slice Aa xs.length ca) := ⟨eC _ _ q0, eC _ _ q1, eC _ _ q2, eC _ _ q3, eC _ _ q4, eC _ _ q5⟩
          have r9 := eC _ _ r7
          have f9 : w9.frozen? ⟨w.heap.size + 1 + 1, 0, none⟩ = false := (HX9.out.frozen (p := ⟨w.heap.size + 1 + 1, 0, none⟩) (World.block_lt_of_cell? w7 _ r7)).trans f7
          have HB9 := Veil.mk (HB7.out.step HX9.out)
          have HR9 := Veil.mk hb9
          clear hS0 hb9 eC q0 q1 q2 q3 q4 q5 r7 f7
          dsimp only
          refine hK.out _ _ (fun _ => hS9) ?_
          clear hK K
          try simp only [Act.put, List.getElem_toArray, List.getElem_cons_zero, List.getElem_cons_succ, List.setIfInBounds_toArray, List.set_cons_zero, List.set_cons_succ]
          cases rr with
          | false => as_aux_lemma =>
            obtain rfl := hv2 rfl
            have HBAD : Veil (okRun first l all k t = false) := ⟨by rw [HOK2.out]; rfl⟩
            have HLV9 := Veil.mk (RunB.leave HJ.out HB9.out)
            clear hv1
            rw [if_neg (by simp : ¬ (false = true))]
            refine wpAnyX_take3 (i := 11) (v := ?_) rfl (by kernel_rfl) (by kernel_rfl) (by kernel_rfl) (by kernel_rfl) (fun _ _ _ h => h) (Or.inl ⟨by rfl, ?_⟩) (by assumption) ?_
            rotate_left 1
            · intro w hSw; (try dsimp only at hSw); go_split_ands; (first | (go_simp; done) | (go_simp; with_reducible rfl))
            try simp only [Act.put, List.getElem_toArray, List.getElem_cons_zero, List.getElem_cons_succ, List.setIfInBounds_toArray, List.set_cons_zero, List.set_cons_succ]
            refine wpAnyX_take3 (i := 12) (v := ?_) rfl (by kernel_rfl) (by kernel_rfl) (by kernel_rfl) (by kernel_rfl) (fun _ _ _ h => h) (Or.inl ⟨by rfl, ?_⟩) (by assumption) ?_
            rotate_left 1
            · intro w hSw; (try dsimp only at hSw); go_split_ands; (first | (go_simp; done) | (go_simp; with_reducible rfl))
            try simp only [Act.put, List.getElem_toArray, List.getElem_cons_zero, List.getElem_cons_succ, List.setIfInBounds_toArray, List.set_cons_zero, List.set_cons_succ]
            refine wpAnyX_take3 (i := 14) (v := ?_) rfl (by kernel_rfl) (by kernel_rfl) (by kernel_rfl) (by kernel_rfl) (fun _ _ _ h => h) (Or.inl ⟨by rfl, ?_⟩) (by assumption) ?_
            rotate_left 1
            · intro w hSw; (try dsimp only at hSw); go_split_ands; (first | (go_simp; done) | (go_simp; with_reducible rfl))
            try simp only [Act.put, List.getElem_toArray, List.getElem_cons_zero, List.getElem_cons_succ, List.setIfInBounds_toArray, List.set_cons_zero, List.set_cons_succ]
            refine wpAnyX_take3 (i := 13) (v := ?_) rfl (by kernel_rfl) (by kernel_rfl) (by kernel_rfl) (by kernel_rfl) (fun _ _ _ h => h) (Or.inl ⟨by rfl, ?_⟩) (by assumption) ?_
            rotate_left 1
            · intro w hSw; (try dsimp only at hSw); go_split_ands; (first | (go_simp; done) | (go_simp; with_reducible rfl))
            try simp only [Act.put, List.getElem_toArray, List.getElem_cons_zero, List.getElem_cons_succ, List.setIfInBounds_toArray, List.set_cons_zero, List.set_cons_succ]
            refine wpAnyX_take3 (i := 15) (v := ?_) rfl (by kernel_rfl) (by kernel_rfl) (by kernel_rfl) (by kernel_rfl) (fun _ _ _ h => h) (Or.inl ⟨by rfl, ?_⟩) (by assumption) ?_
            rotate_left 1
            · intro w hSw; (try dsimp only at hSw); go_split_ands; (first | (go_simp; done) | (go_simp; with_reducible rfl))
            try simp only [Act.put, List.getElem_toArray, List.getElem_cons_zero, List.getElem_cons_succ, List.setIfInBounds_toArray, List.set_cons_zero, List.set_cons_succ]
            refine wpAnyX_done (by kernel_rfl) ?_ _
            gi_wp2_with fail
            refine ⟨trivial, ?_⟩
            gi_wp2_with fail
            exact ⟨HLV9.out.1, HRB.out HBAD.out, HLV9.out.2⟩
          | true =>
            have hv := hv1 rfl
            obtain ⟨A5, c5, rfl⟩ := Kd.R_slice hv
            have HC5 := Veil.mk ((Kd.R_reads' hv).2.2)
            have HD5 := Veil.mk ((Kd.R_reads' HB9.out.row).2.2)
            have HEQ := Veil.mk (equal_any w9 A5 A2 c5 c2 (aloneM ov xs) ys HC5.out HD5.out (by rw [HLN.out]; exact HYL.out) HYL.out)
            clear hv1 hv2 hv
            rw [if_pos rfl]
            obtain ⟨rq, hrq⟩ : ∃ rq, decide (aloneM ov xs = ys) = rq := ⟨_, rfl⟩
            rw [hrq] at HEQ HOK2
            clear hrq
            refine wpAnyX_take3 (i := 11) (v := ?_) rfl (by kernel_rfl) (by kernel_rfl) (by kernel_rfl) (by kernel_rfl) (fun _ _ _ h => h) (Or.inl ⟨by rfl, ?_⟩) (by assumption) ?_
            rotate_left 1
            · intro w hSw; (try dsimp only at hSw); go_split_ands; (first | (go_simp; done) | (go_simp; with_reducible rfl))
            try simp only [Act.put, List.getElem_toArray, List.getElem_cons_zero, List.getElem_cons_succ, List.setIfInBounds_toArray, List.set_cons_zero, List.set_cons_succ]
            refine wpAnyX_take3 (i := 12) (v := ?_) rfl (by kernel_rfl) (by kernel_rfl) (by kernel_rfl) (by kernel_rfl) (fun _ _ _ h => h) (Or.inl ⟨by rfl, ?_⟩) (by assumption) ?_
            rotate_left 1
            · intro w hSw; (try dsimp only at hSw); go_split_ands; (first | (go_simp; done) | (go_simp; with_reducible rfl))
            try simp only [Act.put, List.getElem_toArray, List.getElem_cons_zero, List.getElem_cons_succ, List.setIfInBounds_toArray, List.set_cons_zero, List.set_cons_succ]
            refine wpAnyX_take3 (i := 14) (v := ?_) rfl (by kernel_rfl) (by kernel_rfl) (by kernel_rfl) (by kernel_rfl) (fun _ _ _ h => h) (Or.inl ⟨by rfl, ?_⟩) (by assumption) ?_
            rotate_left 1
            · intro w hSw; (try dsimp only at hSw); go_split_ands; (first | (go_simp; done) | (go_simp; with_reducible rfl))
            try simp only [Act.put, List.getElem_toArray, List.getElem_cons_zero, List.getElem_cons_succ, List.setIfInBounds_toArray, List.set_cons_zero, List.set_cons_succ]
            refine wpAnyX_take3 (i := 13) (v := ?_) rfl (by kernel_rfl) (by kernel_rfl) (by kernel_rfl) (by kernel_rfl) (fun _ _ _ h => h) (Or.inl ⟨by rfl, ?_⟩) (by assumption) ?_
            rotate_left 1
            · intro w hSw; (try dsimp only at hSw); go_split_ands; (first | (go_simp; done) | (go_simp; with_reducible rfl))
            try simp only [Act.put, List.getElem_toArray, List.getElem_cons_zero, List.getElem_cons_succ, List.setIfInBounds_toArray, List.set_cons_zero, List.set_cons_succ]
            refine wpAnyX_take3 (i := 15) (v := ?_) rfl (by kernel_rfl) (by kernel_rfl) (by kernel_rfl) (by kernel_rfl) (fun _ _ _ h => h) (Or.inl ⟨by rfl, ?_⟩) (by assumption) ?_
            rotate_left 1
            · intro w hSw; (try dsimp only at hSw); go_split_ands; (first | (go_simp; done) | (go_simp; with_reducible rfl))
            try simp only [Act.put, List.getElem_toArray, List.getElem_cons_zero, List.getElem_cons_succ, List.setIfInBounds_toArray, List.set_cons_zero, List.set_cons_succ]
            refine wpAnyX_done (by kernel_rfl) ?_ _
            clear hS9
            cases rq with
            | false => as_aux_lemma =>
              have HBAD : Veil (okRun first l all k t = false) := ⟨by rw [HOK2.out]; rfl⟩
              gi_wp2_with (first | (refine ⟨trivial, ?_⟩; gi_at_call 67; refine (CallsIn.inRound _ (callsIn_wide.2 HEQ.out)).mono ?_; rintro e w11 ⟨rfl, hb⟩; have r11 := (hb.cell (p := ⟨w.heap.size + 1 + 1, 0, none⟩) (World.block_lt_of_cell? w9 _ r9)).trans r9; have f11 := (hb.frozen (p := ⟨w.heap.size + 1 + 1, 0, none⟩) (World.block_lt_of_cell? w9 _ r9)).trans f9; have HLV11 := Veil.mk (RunB.leave HJ.out (HB9.out.step hb)); clear hb))
              exact ⟨HLV11.out.1, HRB.out HBAD.out, HLV11.out.2⟩
            | true => as_aux_lemma =>
              have HGOOD : Veil (runsTo first l all (k + 1) = true) := ⟨by rw [HRN.out, HT0.out, HOK2.out]; rfl⟩
              gi_wp2_with (first | (refine ⟨trivial, ?_⟩; gi_at_call 67; refine (CallsIn.inRound _ (callsIn_wide.2 HEQ.out)).mono ?_; rintro e w11 ⟨rfl, hb⟩; have HB11 := Veil.mk (HB9.out.step hb); obtain ⟨A11, c11, hb11, _⟩ := HB11.out.at_; have r11 := hb11.cell 0 _ rfl; have f11 := hb11.free 0; clear hb hb11))
              have hfin := RunB.next HJ.out HB11.out
              exact ⟨hfin.1, ⟨HGOOD.out, hfin.2.1⟩, hfin.2.2⟩
    · rintro r W hLR ⟨hrt, hbx⟩
      have hDL : w5.heap.size ≠ w5.heap.size + 1 := by omega
      have HW := Veil.mk (hbx.put hLR.made (by omega) (.loop (Loop.atEnd r)))
      have HD := Veil.mk ((World.putObj_heap_other (o := .loop (Loop.atEnd r)) hDL).trans hLR.calls)
      have r0 := HW.out.res.cell 0 _ rfl
      have f0 := HW.out.res.free 0
      have HQ := Veil.mk hrt
      have hlow : w.heap.size ≤ w5.heap.size := by omega
      clear hbx hLR hrt
      generalize W.putObj (w5.heap.size + 1) (.loop (Loop.atEnd r)) = W1 at *
      gi_wp2
      have hT := HW.out.turn true
      have hne : w5.heap.size ≠ w.heap.size + 1 + 1 := by omega
      have hD2 : (W1.setCell ⟨w.heap.size + 1 + 1, 0, none⟩ (.bool true)).heap[w5.heap.size]? = some (.deferred (some [])) := (Below.heap_setCell W1 _ _ _ hne).trans HD.out
      have hT2 := hT.putD hD2 hlow (.deferred none)
      refine ⟨by simp, .inl ⟨_, _, rfl, run_takeDeferred hD2, ?_⟩⟩
      exact ⟨_, results_cell rfl rfl (load_bool (hT2.res.cell 0 _ rfl)), by rw [HM.out, HQ.out]; rfl, hT2.below⟩
    · rintro r W hL ⟨hrt, hbx, hD⟩
      have hDL : w5.heap.size ≠ w5.heap.size + 1 := by omega
      have HW := Veil.mk (hbx.put hL (by omega) (.loop (Loop.atOut r)))
      have HD := Veil.mk ((World.putObj_heap_other (o := .loop (Loop.atOut r)) hDL).trans hD)
      have HQ := Veil.mk hrt
      have hlow : w.heap.size ≤ w5.heap.size := by omega
      clear hbx hL hrt hD
      generalize W.putObj (w5.heap.size + 1) (.loop (Loop.atOut r)) = W1 at *
      gi_wp2
      have hT2 := HW.out.putD HD.out hlow (.deferred none)
      refine ⟨by simp, .inl ⟨_, _, rfl, run_takeDeferred HD.out, ?_⟩⟩
      exact ⟨_, results_cell rfl rfl (load_bool (hT2.res.cell 0 _ rfl)), by rw [HM.out, HQ.out]; rfl, hT2.below⟩
end Go.Proofs.Ytjmnbbflahacoaa.Lang
