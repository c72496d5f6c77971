/- BoundMost: the call, of whatever two lists of lists of transactions, returns true. No condition. -/
import Derived.Test.YtmolkkidnkgglaaWalkTells
import Derived.Test.YtmolkkidnkgglaaWalkRises
import Derived.Test.YtmolkkidnkgglaaWNEv
import Derived.Deep.DeepMust
namespace Go.Proofs.Ytmolkkidnkgglaa.Kit
open Go.ChangeShapes Go.WideShapes Go.ChangeAt Go.RowKit Go.Proofs.YtmolkkidnkgglaaW.PrintWords Go.Proofs.YtmolkkidnkgglaaW.PrintLast Go.Proofs.YtmolkkidnkgglaaW.PrintMore Go.Proofs.Ytmolkkidnkgglaa.PBoundTells Go.Proofs.Ytmolkkidnkgglaa.BPure
set_option linter.unusedVariables false
attribute [local go_sem] max2_int min2_int max_two min_two

abbrev K27 := Kd.slice 40 (Kd.slice 59 k59)

/-! plain -/
theorem inner_mx (t : List (List S59)) : ∀ m : Int, 0 ≤ m → innerM m t = mx m (innerM 0 t) ∧ 0 ≤ innerM 0 t := by
  induction t with
  | nil => intro m hm; simp [innerM, mx]; omega
  | cons x t ih =>
    intro m hm
    have hx : (0 : Int) ≤ (x.length : Int) := Int.natCast_nonneg _
    have e0 : ∀ m : Int, innerM m (x :: t) = innerM (mx m (x.length : Int)) t := fun _ => rfl
    have h1 := ih (mx m x.length) (by unfold mx; split <;> omega)
    have h2 := ih (mx 0 x.length) (by unfold mx; split <;> omega)
    rw [e0, e0, h1.1, h2.1]
    have := h1.2
    refine ⟨?_, by unfold mx; (repeat' split) <;> omega⟩
    unfold mx; (repeat' split) <;> omega

theorem most_mx (l : List (List (List S59))) : ∀ m : Int, 0 ≤ m → mostM m l = mx m (mostM 0 l) ∧ 0 ≤ mostM 0 l := by
  induction l with
  | nil => intro m hm; simp [mostM, mx]; omega
  | cons x t ih =>
    intro m hm
    have e0 : ∀ m : Int, mostM m (x :: t) = mostM (innerM m x) t := fun _ => rfl
    have i1 := inner_mx x m hm
    have h1 := ih (innerM m x) (by rw [i1.1]; unfold mx; split <;> omega)
    have h2 := ih (innerM 0 x) i1.2
    rw [e0, e0, h1.1, h2.1, i1.1]
    have := h1.2
    have := i1.2
    refine ⟨?_, by unfold mx; (repeat' split) <;> omega⟩
    unfold mx; (repeat' split) <;> omega

theorem most_append (a b : List (List (List S59))) : mostM 0 (a ++ b) = mx (mostM 0 a) (mostM 0 b) := by
  have e : mostM 0 (a ++ b) = mostM (mostM 0 a) b := by simp [mostM, List.foldl_append]
  rw [e, (most_mx b _ (most_mx a 0 (by omega)).2).1]

theorem len_of_C {w : World} {A : Option Addr} {n : Nat} {xs : List (List (List S59))} (h : Kd.C K27 w A n xs) : ∀ t ∈ xs, t.length ≤ 9223372036854775807 := by
  intro t ht
  obtain ⟨j, hj, rfl⟩ := List.getElem_of_mem ht
  obtain ⟨ad, _, hc⟩ := h.2.2 (by have := h.1; omega)
  obtain ⟨c, _, ⟨A', c', _, _, hr⟩, _⟩ := hc j _ (List.getElem?_eq_getElem hj)
  exact hr.2.1

theorem most_any (A : Option Addr) (c : Nat) (l : List (List (List S59))) (W : World) (hC : Kd.C K27 W A l.length l) (hc : l.length ≤ c) (hl : l.length ≤ 1000) :
    Calls Try.prog 14 #[.slice A l.length c] W fun e W' => e = .returned (.int .i64 (mostM 0 l)) ∧ Below W.heap.size W W' := by
  obtain ⟨k, hk⟩ := (most_l0 l hl (len_of_C hC) _ 0 0 rfl (by omega)).rounds
  exact bound_Most.calls k A c l _ W hC hc (by simpa [bound_Most.f] using hk)

theorem heap_k59 : Kd.Heap k59 := Kd.heap_iso _ (Kd.heap_pair (Kd.heap_int _) (Kd.heap_pair (Kd.heap_int _) (Kd.heap_int _)))
theorem heap_K27 : Kd.Heap K27 := Kd.heap_slice _ (Kd.heap_slice _ heap_k59)

theorem info37 : (Try.prog.info? 37).map (fun i => (i.zero, i.size, i.bytes)) = some (some (.slice none 0 0), 1, 24) := by kernel_rfl

theorem N_empty {α : Type} (d : Kd α) (e : Nat) (W : World) (base : Nat) (hb : base ≤ W.heap.size) : Kd.N d e (W.alloc (.cells #[] e)) base (fun _ => True) (.slice (some ⟨W.heap.size, 0, none⟩) 0 0) [] :=
  ⟨fun _ _ => trivial, [], rfl, ⟨fun _ h => h.symm, [], World.ownsRow_lit W #[] 0 hb (by unfold maxLen; omega) (by simp), Reps.none _ _⟩, fun j x c h => by simp at h⟩

theorem lit_C (W : World) (g : Nat) (c0 : Nat) (h0 : W.cell? ⟨g, 0, none⟩ = some (.slice (some ⟨c0, 0, none⟩) 0 0)) (h1 : W.cell? ⟨g, 1, none⟩ = some (.slice none 0 0)) :
    Kd.C K27 W (some ⟨g, 0, none⟩) ([[], []] : List (List (List S59))).length [[], []] := by
  refine ⟨rfl, by simp, fun _ => ⟨_, rfl, fun j p hj => ?_⟩⟩
  match j with
  | 0 =>
    simp at hj; subst hj
    refine ⟨[.slice (some ⟨c0, 0, none⟩) 0 0], rfl, ⟨_, _, rfl, by simp, rfl, by simp, fun h => absurd h (by simp)⟩, fun i u hu => ?_⟩
    match i with
    | 0 => simp at hu; subst hu; exact h0
    | i + 1 => simp at hu
  | 1 =>
    simp at hj; subst hj
    refine ⟨[.slice none 0 0], rfl, ⟨_, _, rfl, by simp, rfl, by simp, fun h => absurd h (by simp)⟩, fun i u hu => ?_⟩
    match i with
    | 0 => simp at hu; subst hu; exact h1
    | i + 1 => simp at hu
  | j + 2 => simp at hj

theorem nil_any (W : World) : Calls Try.prog 14 #[.slice none 0 0] W fun e W' => e = .returned (.int .i64 0) ∧ Below W.heap.size W W' :=
  most_any none 0 [] W (Kd.C_nil _ _) (Nat.le_refl _) (by simp)

theorem lit_any (W : World) : Calls Try.prog 14 #[.slice (some ⟨W.heap.size + 1, 0, none⟩) 2 2] ((W.alloc (.cells #[] 40)).alloc (.cells #[.slice (some ⟨W.heap.size, 0, none⟩) 0 0, .slice none 0 0] 37))
    fun e W' => e = .returned (.int .i64 0) ∧ Below ((W.alloc (.cells #[] 40)).alloc (.cells #[.slice (some ⟨W.heap.size, 0, none⟩) 0 0, .slice none 0 0] 37)).heap.size ((W.alloc (.cells #[] 40)).alloc (.cells #[.slice (some ⟨W.heap.size, 0, none⟩) 0 0, .slice none 0 0] 37)) W' :=
  most_any _ 2 [[], []] _ (lit_C _ _ W.heap.size (by go_simp) (by go_simp)) (Nat.le_refl _) (by simp)

theorem foot_now {α : Type} {d : Kd α} {w W : World} {A : Option Addr} {n : Nat} {xs : List α} (h : Aside0 (Kd.F d w (fun k => k < w.heap.size) A n xs)) (hb : Aside0 (Below w.heap.size w W)) : Kd.F d W (fun k => k < w.heap.size) A n xs :=
  Kd.F_step h.out (fun k hk _ => hb.out.block k hk)

theorem not_new {B g k : Nat} {n c : Nat} (hz : Aside0 (B ≤ g)) (hk : k < B) (he : some k = (Value.slice (some ⟨g, 0, none⟩) n c).ownBlock) : False := by
  have h1 : some k = some g := he
  injection h1 with h1
  have := hz.out
  omega

theorem most_at (A : Option Addr) (c : Nat) (l : List (List (List S59))) (r : Int) (W : World) (hr : Aside0 (mostM 0 l = r)) (hC : Kd.C K27 W A l.length l) (hc : l.length ≤ c) (hl : l.length ≤ 1000) :
    Calls Try.prog 14 #[.slice A l.length c] W fun e W' => e = .returned (.int .i64 r) ∧ Below W.heap.size W W' := by
  rw [← hr.out]; exact most_any A c l W hC hc hl

set_option maxHeartbeats 1600000 in
set_option maxRecDepth 100000 in
theorem most_main (A B : Option Addr) (ca cb : Nat) (a b l : List (List (List S59))) (na nb nl : Int) (w : World) (hA : Kd.C K27 w A a.length a) (hca : a.length ≤ ca) (hB : Kd.C K27 w B b.length b) (hcb : b.length ≤ cb)
    (la : decide (20 < (a.length : Int)) = false) (lb : decide (20 < (b.length : Int)) = false) (Hl : Aside0 (l = a ++ b)) (Hna : Aside0 (mostM 0 a = na)) (Hnb : Aside0 (mostM 0 b = nb)) (Hnl : Aside0 (mostM 0 l = nl)) (q : (nl == if na < nb then nb else na) = true) :
    Calls Try.prog 5 #[.slice A a.length ca, .slice B b.length cb] w fun e w' => e = .returned (.bool true) ∧ Below w.heap.size w w' := by
  have HA := Aside0.mk (Kd.C_F heap_K27 hA)
  have HBB := Aside0.mk (Kd.C_F heap_K27 hB)
  have La := Aside0.mk (of_decide_eq_false la)
  have Lb := Aside0.mk (of_decide_eq_false lb)
  have Ha := Aside0.mk hca
  have Hb := Aside0.mk hcb
  clear hA hB hca hcb
  have HB := Aside0.mk (Below.refl w.heap.size w)
  have HZ := Aside0.mk (Nat.le_refl w.heap.size)
  go_enter Try.func5, Try.ntmps5
  go_wp2_with (first
    | (go_at_call 6; ((with_reducible refine (alive_any _).mono ?_); rintro e w' ⟨rfl, hb⟩; have hh := below_next HB HZ hb; clear HB HZ hb; obtain ⟨HB, HZ⟩ := hh))
    | ((with_reducible refine gate_builtin (b := .append) (xs := #[.tmp 16, .tmp 17]) rfl ?_); at_builtin
       go_must (refine Kd.N_append_rows K27 (w0 := w) w.heap.size rfl (.tmp 16) (.tmp 17) 27 37 (.slice none 0 0) 24 rfl Try.underlying27 info37 rfl (by decide) (by omega) _ [] a A a.length ca (fun _ => True) (fun k => k < w.heap.size) rfl rfl (N_empty K27 37 _ _ HZ.out) (foot_now HA ⟨HB.out.alloc HZ.out _⟩) (fun k hk => ⟨trivial, fun he => not_new HZ hk he⟩) (fun _ _ => trivial) (HB.out.alloc HZ.out _) (Nat.le_trans HZ.out (by simp)) (by have := La.out; simp; omega) ?_)
       intro v1 w1 hN hb1 hg hat
       clear hg hat
       clear HB HZ
       have HB := Aside0.mk hb1
       have HZ := Aside0.mk hb1.size
       have HN := Aside0.mk hN
       clear hN hb1)
    | ((with_reducible refine gate_builtin (b := .append) (xs := #[.tmp 18, .tmp 19]) rfl ?_); at_builtin
       go_must (refine Kd.N_append_rows K27 (w0 := w) w.heap.size rfl (.tmp 18) (.tmp 19) 27 37 (.slice none 0 0) 24 rfl Try.underlying27 info37 rfl (by decide) (by omega) _ a b B b.length cb (fun _ => True) (fun k => k < w.heap.size) rfl rfl HN.out (foot_now HBB HB) (fun k hk => ⟨trivial, fun he => by have := Kd.N_base HN.out k he.symm; omega⟩) (fun _ _ => trivial) HB.out HZ.out (by have := La.out; have := Lb.out; omega) ?_)
       intro v2 w2 hN hb1 hg hat
       clear hg hat
       clear HB HZ HN
       have HB := Aside0.mk hb1
       have HZ := Aside0.mk hb1.size
       go_must (rw [← Hl.out] at hN)
       obtain ⟨A2, c2, rfl, hc2, hC2⟩ := Kd.N_reads hN
       have HC2 := Aside0.mk hC2
       have Hc2 := Aside0.mk hc2
       clear hN hb1 hC2 hc2)
    | (go_at_call 14; fail))
  refine (most_at A2 c2 l nl _ Hnl HC2.out Hc2.out (by have := La.out; have := Lb.out; rw [Hl.out, List.length_append]; omega)).mono ?_
  rintro e w3 ⟨rfl, hb⟩
  have hh := below_next HB HZ hb; clear HB HZ hb HC2 Hc2; obtain ⟨HB, HZ⟩ := hh
  go_wp2_with (go_at_call 14; fail)
  refine (most_at A ca a na _ Hna (Kd.F_now (foot_now HA HB)) Ha.out (by have := La.out; omega)).mono ?_
  rintro e w4 ⟨rfl, hb⟩
  have hh := below_next HB HZ hb; clear HB HZ hb; obtain ⟨HB, HZ⟩ := hh
  go_wp2_with (go_at_call 14; fail)
  refine (most_at B cb b nb _ Hnb (Kd.F_now (foot_now HBB HB)) Hb.out (by have := Lb.out; omega)).mono ?_
  rintro e w5 ⟨rfl, hb⟩
  have hh := below_next HB HZ hb; clear HB HZ hb; obtain ⟨HB, HZ⟩ := hh
  go_wp2_with (go_at_call 14; fail)
  all_goals
    refine (nil_any _).mono ?_
    rintro e w6 ⟨rfl, hb⟩
    have hh := below_next HB HZ hb; clear HB HZ hb; obtain ⟨HB, HZ⟩ := hh
    go_wp2_with (go_at_call 14; fail)
    refine (lit_any _).mono ?_
    rintro e w7 ⟨rfl, hb⟩
    have hh := below_next (w1 := (w6.alloc (.cells #[] 40)).alloc (.cells #[.slice (some ⟨w6.heap.size, 0, none⟩) 0 0, .slice none 0 0] 37)) ⟨(HB.out.alloc HZ.out _).alloc (Nat.le_trans HZ.out (by simp)) _⟩ ⟨Nat.le_trans HZ.out (by simp; omega)⟩ hb; clear HB HZ hb; obtain ⟨HB, HZ⟩ := hh
    go_wp2
    go_ret
    exact ⟨rfl, HB.out⟩

set_option maxHeartbeats 800000 in
set_option maxRecDepth 100000 in
theorem most_early1 (A B : Option Addr) (ca cb la lb : Nat) (w : World) (ha : decide (20 < (la : Int)) = true) :
    Calls Try.prog 5 #[.slice A la ca, .slice B lb cb] w fun e w' => e = .returned (.bool true) ∧ Below w.heap.size w w' := by
  have HB := Aside0.mk (Below.refl w.heap.size w)
  have HZ := Aside0.mk (Nat.le_refl w.heap.size)
  go_enter Try.func5, Try.ntmps5
  go_wp2_with (first
    | (go_at_call 6; ((with_reducible refine (alive_any _).mono ?_); rintro e w' ⟨rfl, hb⟩; have hh := below_next HB HZ hb; clear HB HZ hb; obtain ⟨HB, HZ⟩ := hh)))
  go_ret
  exact ⟨rfl, HB.out⟩

set_option maxHeartbeats 800000 in
set_option maxRecDepth 100000 in
theorem most_early2 (A B : Option Addr) (ca cb la lb : Nat) (w : World) (ha : decide (20 < (la : Int)) = false) (hb : decide (20 < (lb : Int)) = true) :
    Calls Try.prog 5 #[.slice A la ca, .slice B lb cb] w fun e w' => e = .returned (.bool true) ∧ Below w.heap.size w w' := by
  have HB := Aside0.mk (Below.refl w.heap.size w)
  have HZ := Aside0.mk (Nat.le_refl w.heap.size)
  go_enter Try.func5, Try.ntmps5
  go_wp2_with (first
    | (go_at_call 6; ((with_reducible refine (alive_any _).mono ?_); rintro e w' ⟨rfl, hb⟩; have hh := below_next HB HZ hb; clear HB HZ hb; obtain ⟨HB, HZ⟩ := hh)))
  go_ret
  exact ⟨rfl, HB.out⟩

theorem walk_most {H : Type} {enc : TypeId × Value → H} (W : World) (base : Nat) {v0 v1 : Value} {d0 d1 : DataW H} {p0 p1 : List MemPlace}
    (k0 : Value.okWide Try.prog W .any base 27 v0) (h0 : DataW.Trod enc Try.prog W 0 (fun _ => true) true 27 v0 d0 p0)
    (k1 : Value.okWide Try.prog W .any base 27 v1) (h1 : DataW.Trod enc Try.prog W 0 (fun _ => true) true 27 v1 d1 p1) :
    Calls Try.prog 5 #[v0, v1] W fun e W' => e = .returned (.bool true) ∧ Below W.heap.size W W' := by
  obtain ⟨A, ca, a, rfl, hca, hA⟩ := open_kd (d := K27) Try.underlying27 (by kernel_rfl) (opens_slice 40 Try.underlying37 (by kernel_rfl) (opens_slice 59 Try.underlying40 (by kernel_rfl) opens_op)) k0 h0
  obtain ⟨B, cb, b, rfl, hcb, hB⟩ := open_kd (d := K27) Try.underlying27 (by kernel_rfl) (opens_slice 40 Try.underlying37 (by kernel_rfl) (opens_slice 59 Try.underlying40 (by kernel_rfl) opens_op)) k1 h1
  by_cases ha : 20 < (a.length : Int)
  · exact most_early1 A B ca cb _ _ W (decide_eq_true ha)
  by_cases hb : 20 < (b.length : Int)
  · exact most_early2 A B ca cb _ _ W (decide_eq_false ha) (decide_eq_true hb)
  refine most_main A B ca cb a b (a ++ b) _ _ _ W hA hca hB hcb (decide_eq_false ha) (decide_eq_false hb) ⟨rfl⟩ ⟨rfl⟩ ⟨rfl⟩ ⟨rfl⟩ ?_
  rw [most_append]
  unfold mx
  simp
end Go.Proofs.Ytmolkkidnkgglaa.Kit
