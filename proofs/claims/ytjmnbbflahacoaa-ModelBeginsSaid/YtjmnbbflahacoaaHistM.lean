/- hist, thirteenth part: the document's example. No condition. -/
import Derived.Test.YtjmnbbflahacoaaHistL
namespace Go.Proofs.Ytjmnbbflahacoaa.Hist
open Go.RowKit Go.ChangeMaps Go.Maps Go.Proofs.Ytjmnbbflahacoaa.Mem Go.Proofs.Ytjmnbbflahacoaa.PHistTells Go.Proofs.YtjmnbbflahacoaaW.PrintWords
set_option linter.unusedVariables false
set_option linter.unusedSimpArgs false

theorem evC_length (e : Ev) : (evC e).length = 7 := rfl
theorem evs_at : ∀ (l : List Ev) (j : Nat) (e : Ev), l[j]? = some e → ∀ i, i < 7 → (l.flatMap evC)[j * 7 + i]? = (evC e)[i]?
  | [], j, e, h, _, _ => by simp at h
  | x :: l, 0, e, h, i, hi => by
    simp only [List.getElem?_cons_zero, Option.some.injEq] at h
    subst h
    rw [List.flatMap_cons, Nat.zero_mul, Nat.zero_add, List.getElem?_append_left (by rw [evC_length]; exact hi)]
  | x :: l, j + 1, e, h, i, hi => by
    rw [List.getElem?_cons_succ] at h
    rw [List.flatMap_cons, List.getElem?_append_right (by rw [evC_length]; omega), evC_length, show (j + 1) * 7 + i - 7 = j * 7 + i by omega]
    exact evs_at l j e h i hi
theorem ev_lit {w : World} {b : Nat} {l : List Ev} (h : Blk w b 31 (l.flatMap evC)) (hl : l.length ≤ 1000000000) : kEv.C w (some ⟨b, 0, none⟩) l.length l := by
  refine ⟨rfl, by omega, fun _ => ⟨⟨b, 0, none⟩, rfl, fun j p hj => ⟨evC p, rfl, k31_mk w p, fun i u hu => ?_⟩⟩⟩
  have hi : i < 7 := (List.getElem?_eq_some_iff.1 hu).1
  have := h.cell (j * 7 + i) u (by rw [evs_at l j p hj i hi]; exact hu)
  show w.cell? ((⟨b, 0, none⟩ : Addr).add (j * 7 + i)) = some u
  unfold Addr.add
  split
  · rename_i h0; rw [h0] at this; exact this
  · simpa using this

def exL : List Ev := [⟨1, 0, 0, 1, 0, 0, 0⟩, ⟨2, 0, 0, 1, 0, 5, 0⟩, ⟨5, 0, 0, 1, 0, 0, 0⟩]
theorem exL_ok : ∀ e ∈ exL, EvOk e := by
  intro e he
  simp only [exL, List.mem_cons, List.not_mem_nil, or_false] at he
  rcases he with rfl | rfl | rfl <;> exact ⟨by decide, by decide⟩
def exT : Tr := ⟨0, 0, 1, 0, 0, 2, 0, true, [⟨1, 2, 0, 5, false, false⟩]⟩
theorem ex_tries : triesM exL = [exT] := by rfl
theorem ex_right : rightM exL = true := by rfl

theorem ex_at {w : World} {A : Option Addr} (h : kTr.C w A 1 [exT]) : ∃ ad A8 c8, A = some ad ∧ w.cell? ⟨ad.block, ad.off + 5, none⟩ = some (.int .i64 2) ∧ w.cell? ⟨ad.block, ad.off + 7, none⟩ = some (.bool true) ∧ w.cell? ⟨ad.block, ad.off + 8, none⟩ = some (.slice A8 1 c8) := by
  obtain ⟨ad, A8, c8, e, q0, q1, q2, q3, q4, q5, q6, q7, q8, _, _⟩ := at_T29 h 0 (by decide) (by decide)
  have h0 : ad.add (Int.toNat 0 * 9) = ad := by simp [Addr.add]
  rw [h0] at q5 q7 q8
  exact ⟨ad, A8, c8, e, q5, q7, q8⟩

set_option maxHeartbeats 1600000 in
set_option maxRecDepth 100000 in
theorem alive_any (w : World) : Calls Try.prog 19 #[] w fun e w' => e = .returned (.bool true) ∧ Below w.heap.size w w' := by
  have hb : Below w.heap.size w (w.alloc (.cells #[.int .i64 1, .int .i64 0, .int .i64 0, .int .i64 1, .int .i64 0, .int .i64 0, .int .i64 0, .int .i64 2, .int .i64 0, .int .i64 0, .int .i64 1, .int .i64 0, .int .i64 5, .int .i64 0, .int .i64 5, .int .i64 0, .int .i64 0, .int .i64 1, .int .i64 0, .int .i64 0, .int .i64 0] 31)) := (Below.refl _ _).alloc (Nat.le_refl _) _
  have hC := ev_lit (l := exL) (Blk.new w #[.int .i64 1, .int .i64 0, .int .i64 0, .int .i64 1, .int .i64 0, .int .i64 0, .int .i64 0, .int .i64 2, .int .i64 0, .int .i64 0, .int .i64 1, .int .i64 0, .int .i64 5, .int .i64 0, .int .i64 5, .int .i64 0, .int .i64 0, .int .i64 1, .int .i64 0, .int .i64 0, .int .i64 0] 31) (by decide)
  have HC := Veil.mk hC
  have HB := Veil.mk hb
  clear hb hC
  go_enter Try.func19, Try.ntmps19
  go_wp2_with (first | (go_at_call 21; go_must (refine (tries_any _ (some ⟨w.heap.size, 0, none⟩) 3 exL HC.out (by decide) exL_ok).mono ?_; rintro ed w2 ⟨v, rfl, hv, hb⟩; rw [ex_tries] at hv; have HV := Veil.mk hv; have HB2 := Veil.mk (below_of HB.out hb); have HBx := Veil.mk hb; obtain ⟨A1, c1, rfl, _, hT⟩ := Kd.R_reads hv; clear hv hb; have HT := Veil.mk hT; clear hT)) | (go_at_call 20; go_must (refine (right_any _ (some ⟨w.heap.size, 0, none⟩) 3 exL (Kd.C_below HC.out HBx.out) (by decide) exL_ok).mono ?_; rintro ed w3 ⟨rfl, hb⟩; rw [ex_right]; have HB3 := Veil.mk (below_of HB2.out hb); have hT3 := Kd.C_below HT.out hb; have hx := ex_at hT3; obtain ⟨ad, A8, c8, rfl, q5, q7, q8⟩ := hx; clear hb hT3)))
  go_ret
  exact ⟨rfl, HB3.out⟩
end Go.Proofs.Ytjmnbbflahacoaa.Hist
