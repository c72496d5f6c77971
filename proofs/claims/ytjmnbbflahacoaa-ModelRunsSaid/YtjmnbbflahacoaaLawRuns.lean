/- How an argument that is all threads' transactions reads. No condition. -/
import Derived.Test.YtjmnbbflahacoaaOpens
import Derived.Test.YtjmnbbflahacoaaLang
import Derived.Test.YtjmnbbflahacoaaGreat
import Derived.Test.YtjmnbbflahacoaaRefRuns
namespace Go.Proofs.Ytjmnbbflahacoaa.Lang
open Go.ChangeShapes Go.WideShapes Go.ChangeAt Go.RowKit Go.Proofs.Ytjmnbbflahacoaa.Mem Go.Proofs.Ytjmnbbflahacoaa.Hist Go.Proofs.Ytjmnbbflahacoaa.Model Go.Proofs.Ytjmnbbflahacoaa.Kit Go.Proofs.YtjmnbbflahacoaaW.PrintWords
set_option linter.unusedVariables false

/-- An operation whose kind is an int64. -/
def OpOk (o : Op) : Prop := (Lit.int .i64 o.f0).wf = true
set_option maxRecDepth 100000 in
theorem opens_op : Opens Try.prog 142 (such kOp OpOk) := by
  intro H enc w fuel cs x h
  obtain ⟨zs, hl, rfl, hw⟩ := open_i64s Try.underlying142 (by kernel_rfl) (by kernel_rfl) h
  match zs, hl with
  | [a, b, c], _ => exact ⟨⟨a, b, c⟩, ⟨_, _, rfl, rfl, ⟨_, _, rfl, rfl, rfl⟩⟩, hw 0 a rfl⟩
/-- What is said of each element is said of the row. -/
theorem such_K {α : Type} {d : Kd α} {p : α → Prop} {q : Nat} {w : World} {x : List α} {cs : List Value} (h : (Kd.slice q (such d p)).K w x cs) : (such (Kd.slice q d) (fun l => ∀ a ∈ l, p a)).K w x cs := by
  obtain ⟨A, c, rfl, hl, hC⟩ := h
  obtain ⟨h1, h2⟩ := such_C hC
  exact ⟨⟨A, c, rfl, hl, h1⟩, h2⟩
theorem opens_imp {α : Type} {P : Program} {t : TypeId} {d d' : Kd α} (h : Opens P t d) (hK : ∀ w x cs, d.K w x cs → d'.K w x cs) : Opens P t d' := by
  intro H enc w fuel cs x hx
  obtain ⟨y, hy⟩ := h _ _ _ _ _ _ hx
  exact ⟨y, hK _ _ _ hy⟩
set_option maxRecDepth 100000 in
theorem opens_txn : Opens Try.prog 103 (such kT (fun l => ∀ o ∈ l, OpOk o)) :=
  opens_imp (opens_slice 142 Try.underlying103 (by kernel_rfl) opens_op) (fun _ _ _ h => such_K h)
set_option maxRecDepth 100000 in
theorem opens_txns : Opens Try.prog 102 (such kA (fun l => ∀ b ∈ l, ∀ o ∈ b, OpOk o)) :=
  opens_imp (opens_slice 103 Try.underlying102 (by kernel_rfl) opens_txn) (fun _ _ _ h => such_K h)
set_option maxRecDepth 100000 in
theorem open_all {H : Type} {enc : TypeId × Value → H} {W : World} {base : Nat} {v : Value} {d : DataW H} {p : List MemPlace} (k : Value.okWide Try.prog W .any base 62 v) (h : DataW.Trod enc Try.prog W 0 (fun _ => true) true 62 v d p) :
    ∃ A c all, v = .slice A all.length c ∧ all.length ≤ c ∧ kA.C W A all.length all ∧ ∀ a ∈ all, ∀ b ∈ a, ∀ o ∈ b, OpOk o := by
  obtain ⟨A, c, l, e, hl, hC⟩ := open_kd (d := such kA (fun l => ∀ b ∈ l, ∀ o ∈ b, OpOk o)) Try.underlying62 (by kernel_rfl) opens_txns k h
  obtain ⟨h1, h2⟩ := such_C hC
  exact ⟨A, c, l, e, hl, h1, h2⟩
end Go.Proofs.Ytjmnbbflahacoaa.Lang
/- ModelRuns's walk: true for any values, any trace, any transactions. No condition. -/
namespace Go.Proofs.Ytjmnbbflahacoaa.Lang
open Go.RowKit Go.Proofs.Ytjmnbbflahacoaa.Mem Go.Proofs.Ytjmnbbflahacoaa.Hist Go.Proofs.Ytjmnbbflahacoaa.Model Go.Proofs.Ytjmnbbflahacoaa.PHistTells Go.Proofs.YtjmnbbflahacoaaW.PrintWords
set_option linter.unusedVariables false
set_option linter.unusedSimpArgs false

set_option maxHeartbeats 8000000 in
set_option maxRecDepth 100000 in
theorem modelRuns_any (w : World) (A : Option Addr) (c : Nat) (l : List Ev) (Av : Option Addr) (cv : Nat) (first : List Int) (B : Option Addr) (cb : Nat) (all : List (List (List Op))) (hC : kEv.C w A l.length l) (hc : l.length ≤ c) (hok : ∀ e ∈ l, EvOk e) (hF : kI.C w Av first.length first) (hcv : first.length ≤ cv) (hlow : ∀ ad, Av = some ad → first ≠ [] → ad.block < w.heap.size)
    (hB : kA.C w B all.length all) (hops : ∀ a ∈ all, ∀ b ∈ a, ∀ o ∈ b, (Lit.int .i64 o.f0).wf = true) :
    Calls Try.prog 13 #[.slice Av first.length cv, .slice A l.length c, .slice B all.length cb] w fun e w' => e = .returned (.bool true) ∧ Below w.heap.size w w' := by
  by_cases h1 : 120 < l.length
  · have g1 : decide ((120 : Int) < (l.length : Int)) = true := decide_eq_true (by omega)
    have g1' : decide (120 < l.length) = true := decide_eq_true h1
    clear hC hc hok hF hcv hlow hB hops h1
    go_enter Try.func13, Try.ntmps13
    go_wp2_with (first | (go_at_call 29; refine (alive18_any _).mono ?_; rintro ed w1 ⟨rfl, hb⟩; have HX := Veil.mk hb; clear hb))
    go_ret
    exact ⟨rfl, HX.out⟩
  have g1 : decide ((120 : Int) < (l.length : Int)) = false := decide_eq_false (by omega)
  have g1' : decide (120 < l.length) = false := decide_eq_false h1
  by_cases h2 : 20 < first.length
  · have g2 : decide ((20 : Int) < (first.length : Int)) = true := decide_eq_true (by omega)
    have g2' : decide (20 < first.length) = true := decide_eq_true h2
    clear hC hc hok hF hcv hlow hB hops h1 h2
    go_enter Try.func13, Try.ntmps13
    go_wp2_with (first | (go_at_call 29; refine (alive18_any _).mono ?_; rintro ed w1 ⟨rfl, hb⟩; have HX := Veil.mk hb; clear hb))
    go_ret
    exact ⟨rfl, HX.out⟩
  have g2 : decide ((20 : Int) < (first.length : Int)) = false := decide_eq_false (by omega)
  have g2' : decide (20 < first.length) = false := decide_eq_false h2
  have HGR := Veil.mk (fun (W : World) (h : Below w.heap.size w W) => great_any W Av cv first B cb all (by omega) (Kd.C_below hB h))
  by_cases hs : Small all
  · have hal : ∀ a ∈ all, a.length ≤ 1000000 := fun a ha => by have := (hs.2 a ha).1; omega
    have hal2 : ∀ a ∈ all, ∀ b ∈ a, b.length ≤ 1000000 ∧ ∀ o ∈ b, (Lit.int .i64 o.f0).wf = true := fun a ha b hb => ⟨by have := (hs.2 a ha).2 b hb; omega, hops a ha b hb⟩
    have HRN := Veil.mk (fun (W : World) (h : Below w.heap.size w W) => runs_any W A c l Av cv first B cb all (Kd.C_below hC h) (by omega) hok (Kd.C_below hF h) (by omega) (fun t ht => by have := commitsM_acc l t ht; omega) (Kd.C_below hB h) (by have := hs.1; omega) hal hal2)
    have HRF := Veil.mk (fun (W : World) (h : Below w.heap.size w W) => refruns_any W A c l Av cv first B cb all (Kd.C_below hC h) hc (by omega) (Kd.C_below hF h) hcv (by omega) (fun ad h1 h2 => Nat.lt_of_lt_of_le (hlow ad h1 h2) h.size) (Kd.C_below hB h) hs)
    have HGT : Veil (∀ W, Below w.heap.size w W → Calls Try.prog 40 #[.agg #[.int .i64 0, .int .i64 0, .int .i64 0, .int .i64 0, .int .i64 0, .int .i64 0, .slice Av first.length cv, .slice none 0 0, .slice B all.length cb]] W fun e w' => e = .returned (.int .i64 0) ∧ Below W.heap.size W w') := ⟨fun W h => (HGR.out W h).mono (fun e w' hp => ⟨hp.1.elim (fun h => absurd hs h.2) (fun h => h.1), hp.2⟩)⟩
    clear hC hc hok hF hcv hlow hB hops h1 h2 hal hal2 HGR hs
    obtain ⟨r, hr⟩ : ∃ r, runsM first l all = r := ⟨_, rfl⟩
    rw [hr] at HRN HRF
    clear hr
    have er : (r == r) = true := by simp
    go_enter Try.func13, Try.ntmps13
    go_wp2_with (first | (go_at_call 29; refine (alive18_any _).mono ?_; rintro ed w1 ⟨rfl, hb⟩; have HX := Veil.mk hb; clear hb) | (go_at_call 40; refine (HGT.out _ HX.out).mono ?_; rintro ed w2 ⟨rfl, hb⟩; have HX2 := Veil.mk (below_of HX.out hb); clear hb) | (go_at_call 41; refine (HRN.out _ HX2.out).mono ?_; rintro ed w3 ⟨rfl, hb⟩; have HX3 := Veil.mk (below_of HX2.out hb); clear hb) | (go_at_call 42; refine (HRF.out _ HX3.out).mono ?_; rintro ed w4 ⟨rfl, hb⟩; have HX4 := Veil.mk (below_of HX3.out hb); clear hb))
    go_ret
    exact ⟨rfl, HX4.out⟩
  · have HGT : Veil (∀ W, Below w.heap.size w W → Calls Try.prog 40 #[.agg #[.int .i64 0, .int .i64 0, .int .i64 0, .int .i64 0, .int .i64 0, .int .i64 0, .slice Av first.length cv, .slice none 0 0, .slice B all.length cb]] W fun e w' => e = .returned (.int .i64 1) ∧ Below W.heap.size W w') := ⟨fun W h => (HGR.out W h).mono (fun e w' hp => ⟨hp.1.elim (fun h => h.1) (fun h => absurd h.2 hs), hp.2⟩)⟩
    clear hC hc hok hF hcv hlow hB hops h1 h2 HGR hs
    go_enter Try.func13, Try.ntmps13
    go_wp2_with (first | (go_at_call 29; refine (alive18_any _).mono ?_; rintro ed w1 ⟨rfl, hb⟩; have HX := Veil.mk hb; clear hb) | (go_at_call 40; refine (HGT.out _ HX.out).mono ?_; rintro ed w2 ⟨rfl, hb⟩; have HX2 := Veil.mk (below_of HX.out hb); clear hb))
    go_ret
    exact ⟨rfl, HX2.out⟩
end Go.Proofs.Ytjmnbbflahacoaa.Lang
/- ModelRuns: the call, for whatever reads as its arguments, returns true. No condition. -/
namespace Go.Proofs.Ytjmnbbflahacoaa.Lang
open Go.ChangeShapes Go.WideShapes Go.ChangeAt Go.RowKit Go.Proofs.Ytjmnbbflahacoaa.Mem Go.Proofs.Ytjmnbbflahacoaa.Hist Go.Proofs.Ytjmnbbflahacoaa.Model Go.Proofs.Ytjmnbbflahacoaa.Kit Go.Proofs.YtjmnbbflahacoaaW.PrintWords
set_option linter.unusedVariables false
theorem ints_lt3 {w : World} {A : Option Addr} {xs : List Int} (h : kI.C w A xs.length xs) : ∀ ad, A = some ad → xs ≠ [] → ad.block < w.heap.size := by
  intro ad ha hs
  have hp := List.length_pos_iff.2 hs
  obtain ⟨a, e, h0⟩ := int_at h 0 hp
  rw [ha] at e
  injection e with e
  subst e
  have := World.block_lt_of_cell? w _ h0
  simpa [Addr.add] using this
set_option maxRecDepth 100000 in
theorem walk_modelRuns {H : Type} {enc : TypeId × Value → H} (W : World) (base : Nat) {v0 v1 v2 : Value} {d0 d1 d2 : DataW H} {p0 p1 p2 : List MemPlace}
    (k0 : Value.okWide Try.prog W .any base 47 v0) (h0 : DataW.Trod enc Try.prog W 0 (fun _ => true) true 47 v0 d0 p0)
    (k1 : Value.okWide Try.prog W .any base 22 v1) (h1 : DataW.Trod enc Try.prog W 0 (fun _ => true) true 22 v1 d1 p1)
    (k2 : Value.okWide Try.prog W .any base 62 v2) (h2 : DataW.Trod enc Try.prog W 0 (fun _ => true) true 62 v2 d2 p2) :
    Calls Try.prog 13 #[v0, v1, v2] W fun e W' => e = .returned (.bool true) ∧ Below W.heap.size W W' := by
  obtain ⟨Av, cv, first, rfl, hcv, hF⟩ := open_vals k0 h0
  obtain ⟨A, c, l, rfl, hc, hC, hok⟩ := open_evs k1 h1
  obtain ⟨B, cb, all, rfl, _, hB, hops⟩ := open_all k2 h2
  exact modelRuns_any W A c l Av cv first B cb all hC hc hok hF hcv (ints_lt3 hF) hB hops
end Go.Proofs.Ytjmnbbflahacoaa.Lang
