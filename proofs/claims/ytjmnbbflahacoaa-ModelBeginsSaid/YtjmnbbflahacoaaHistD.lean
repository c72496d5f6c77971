/- hist, fourth part: release. No condition. -/
import Derived.Test.YtjmnbbflahacoaaHistC
namespace Go.Proofs.Ytjmnbbflahacoaa.Hist
open Go.RowKit Go.Proofs.Ytjmnbbflahacoaa.Mem Go.Proofs.Ytjmnbbflahacoaa.PHistTells Go.Proofs.YtjmnbbflahacoaaW.PrintWords
set_option linter.unusedVariables false
set_option linter.unusedSimpArgs false

/-- One cell of an owned row's element turns. -/
theorem own_field {α : Type} {R R' : α → List Value → Prop} {e : TypeId} {size : Nat} {W : World} {base g n cap : Nat} {xs : List α} (h : OwnRow R e size W base (.slice (some ⟨g, 0, none⟩) n cap) xs) {k : Nat} (hk : k < xs.length) {o : Nat} (ho : o < size) (u : Value) (x' : α)
    (hx : ∀ c, R xs[k] c → R' x' (c.set o u)) (hR : ∀ p c, R p c → R' p c) : OwnRow R' e size (W.setCell ⟨g, k * size + o, none⟩ u) base (.slice (some ⟨g, 0, none⟩) n cap) (xs.set k x') := by
  obtain ⟨inner, ⟨h1, h2⟩, hl, hr⟩ := h
  rcases h2 with ⟨hv, _⟩ | ⟨g', cap', cur, hv, hb, hh, hn, hm, hs, ht⟩
  · cases hv
  injection hv with ha hn' hc'
  injection ha with ha
  injection ha with ha
  subst ha hc'
  have hlt : k * size + o < inner.length := by
    rw [hl]
    have : k * size + size ≤ xs.length * size := by rw [← Nat.succ_mul]; exact Nat.mul_le_mul_right _ hk
    omega
  refine ⟨inner.set (k * size + o) u, ⟨by simpa using h1, .inr ⟨g, cap, cur.setIfInBounds (k * size + o) u, by rw [hn']; simp, hb, ?_, ?_, hm, by simpa using hs, ?_⟩⟩, ?_, ?_⟩
  · simp only [World.setCell, Array.getElem?_modify, hh, if_true, Option.map_some]
    simp
  · simpa using hn
  · rw [Array.toList_setIfInBounds, List.take_set, List.length_set]
    rw [← ht]
  · simp [hl]
  · intro j p hj
    rw [List.getElem?_set] at hj
    by_cases hkj : k = j
    · subst hkj
      rw [if_pos rfl, if_pos hk] at hj
      injection hj with hj
      subst hj
      have h3 := hx _ (hr k xs[k] (List.getElem?_eq_getElem hk))
      rw [List.drop_set, if_neg (by omega), List.take_set, show k * size + o - k * size = o by omega]
      exact h3
    · rw [if_neg hkj] at hj
      have h3 := hR _ _ (hr j p hj)
      have hjl : j < xs.length := (List.getElem?_eq_some_iff.1 hj).1
      rw [List.drop_set]
      rcases Nat.lt_or_ge k j with hlt' | hge
      · have : k * size + size ≤ j * size := by rw [← Nat.succ_mul]; exact Nat.mul_le_mul_right _ hlt'
        rw [if_pos (by omega)]
        exact h3
      · have : j * size + size ≤ k * size := by rw [← Nat.succ_mul]; exact Nat.mul_le_mul_right _ (by omega)
        rw [if_neg (by omega), List.take_set, List.set_eq_of_length_le (by simp; omega)]
        exact h3

def relAcc (obj : Int) (a : Acc) : Acc := if a.f1 == 2 && a.f2 == obj then { a with f5 := true } else a
def relTo (obj : Int) (l : List Acc) (k : Nat) : List Acc := (l.take k).map (relAcc obj) ++ l.drop k
theorem relTo_length (obj : Int) (l : List Acc) (k : Nat) : (relTo obj l k).length = l.length := by
  unfold relTo; simp; omega
theorem relTo_at (obj : Int) (l : List Acc) (k : Nat) (h : k < l.length) : (relTo obj l k)[k]? = some l[k] := by
  unfold relTo
  have hl : ((l.take k).map (relAcc obj)).length = k := by simp; omega
  rw [List.getElem?_append_right (by omega), hl]
  simp
theorem relTo_next (obj : Int) (l : List Acc) (k : Nat) (h : k < l.length) : relTo obj l (k + 1) = (relTo obj l k).set k (relAcc obj l[k]) := by
  unfold relTo
  have hl : ((l.take k).map (relAcc obj)).length = k := by simp; omega
  rw [List.take_succ_eq_append_getElem h, List.map_append, List.set_append_right _ _ (by omega), hl, Nat.sub_self, List.drop_eq_getElem_cons h]
  simp only [List.map_cons, List.map_nil, List.append_assoc, List.cons_append, List.nil_append, List.set_cons_zero]
theorem relAcc_no1 {obj : Int} {x : Acc} (h : (x.f1 == 2) = false) : relAcc obj x = x := by unfold relAcc; simp [h]
theorem relAcc_no2 {obj : Int} {x : Acc} (h : (x.f2 == obj) = false) : relAcc obj x = x := by unfold relAcc; simp [h]
theorem relAcc_yes {obj : Int} {x : Acc} (h1 : (x.f1 == 2) = true) (h : (x.f2 == obj) = true) : relAcc obj x = { x with f5 := true } := by unfold relAcc; simp [h, h1]
theorem relTo_same {obj : Int} {l : List Acc} {k : Nat} (h : k < l.length) {x : Acc} (hx : l[k] = x) (hr : relAcc obj x = x) : relTo obj l (k + 1) = relTo obj l k := by
  rw [relTo_next obj l k h, hx, hr]
  have h1 := relTo_at obj l k h
  rw [hx] at h1
  obtain ⟨h2, h3⟩ := List.getElem?_eq_some_iff.1 h1
  rw [← h3]; exact List.set_getElem_self h2
theorem relTo_all (obj : Int) (l : List Acc) : relTo obj l l.length = l.map (relAcc obj) := by unfold relTo; simp

/-- One access is marked. -/
theorem release_step {w : World} {base bt g n c : Nat} {t : Tr} {L : List Acc} (h : TryAt w base bt (withAcc t L) (.slice (some ⟨g, 0, none⟩) n c)) {k : Nat} {x : Acc} (hx : L[k]? = some x) :
    TryAt (w.setCell ⟨g, k * 6 + 5, none⟩ (.bool true)) base bt (withAcc t (L.set k { x with f5 := true })) (.slice (some ⟨g, 0, none⟩) n c) := by
  obtain ⟨hk, he⟩ := List.getElem?_eq_some_iff.1 hx
  have hne : bt ≠ g := fun e => not_row h (by rw [e]; rfl)
  refine ⟨h.blk.far hne _, h.low, fun _ _ => trivial, own_field h.acc.2 hk (by decide : 5 < 6) _ _ (fun cs hc => ?_) (fun p cs hc => ?_)⟩
  · have hc' : kAcc.M w base (fun k => (fun _ => True) k ∧ some k ≠ (Value.slice (some ⟨g, 0, none⟩) n c).ownBlock) x cs := he ▸ hc
    obtain rfl := k33_openM hc'
    exact k33_mkM _ _ _ { x with f5 := true }
  · obtain rfl := k33_openM hc
    exact k33_mkM _ _ _ p

/-- The element at k, its cells. -/
theorem acc_cells {w : World} {base bt g n c : Nat} {t : Tr} (h : TryAt w base bt t (.slice (some ⟨g, 0, none⟩) n c)) (k : Nat) (x : Acc) (hx : t.f8[k]? = some x) :
    w.cell? ⟨g, k * 6 + 1, none⟩ = some (.int .i64 x.f1) ∧ w.cell? ⟨g, k * 6 + 2, none⟩ = some (.int .i64 x.f2) ∧ w.cell? ⟨g, k * 6 + 5, none⟩ = some (.bool x.f5) ∧ w.frozen? ⟨g, k * 6 + 5, none⟩ = false := by
  have hk := (List.getElem?_eq_some_iff.1 hx).1
  have hR := h.acc
  have hn := (Kd.R_reads' hR).1
  obtain ⟨cs, hcl, hM, hcc, hfr⟩ := Kd.R_elem hR z33 (k : Int) (by omega) (by omega)
  simp only [Int.toNat_natCast, List.getD_eq_getElem?_getD, hx, Option.getD_some] at hM hcc hfr
  obtain rfl := k33_openM hM
  exact ⟨hcc 1 _ rfl, hcc 2 _ rfl, hcc 5 _ rfl, hfr 5⟩

set_option maxHeartbeats 1600000 in
set_option maxRecDepth 100000 in
theorem release_any (w : World) (base bt : Nat) (t : Tr) (row : Value) (obj : Int) (hT : TryAt w base bt t row) (hl : t.f8.length ≤ 1000000000) :
    Calls Try.prog 93 #[.pointer (some ⟨bt, 0, none⟩), .int .i64 obj] w
      fun ed w' => ed = .returned (.tuple #[]) ∧ TryAt w' base bt (withAcc t (t.f8.map (relAcc obj))) row ∧ Upd (fun k => row.ownBlock = some k) w w' := by
  obtain ⟨A, c, rfl, hc, hC⟩ := Kd.R_reads hT.acc
  have c8 := hT.blk.cell 8 _ rfl
  have HT := Veil.mk hT
  have HL := Veil.mk hl
  clear hT hC hc hl
  go_enter Try.func93, Try.ntmps93
  go_wp2
  clear c8
  go_loopw [4, 5, 11] (fun v4 v5 v11 wr => ∃ k : Nat, k ≤ t.f8.length ∧ v11 = .int .i64 k ∧ Veil (TryAt wr base bt (withAcc t (relTo obj t.f8 k)) (.slice A t.f8.length c)) ∧ Veil (Upd (fun k => (Value.slice A t.f8.length c).ownBlock = some k) w wr)) (fun _ _ v11 _ => t.f8.length - (intOf v11).toNat)
  case atStart => exact ⟨0, Nat.zero_le _, rfl, ⟨by simpa [relTo, withAcc] using HT.out⟩, ⟨Upd.refl _ _⟩⟩
  case round =>
    obtain ⟨k, hk, rfl, HR, HU⟩ := hrel
    have hm := HL.out
    by_cases hlt : k < t.f8.length
    · obtain ⟨g, rfl⟩ : ∃ g, A = some ⟨g, 0, none⟩ := by
        obtain ⟨g, cap, he, _⟩ := Kd.R_form HR.out.acc (by show 0 < (relTo obj t.f8 k).length; rw [relTo_length]; omega)
        injection he with he _ _
        exact ⟨g, he⟩
      obtain ⟨h1, h2, h5, f5⟩ := acc_cells HR.out k t.f8[k] (relTo_at obj t.f8 k hlt)
      have c8 := HR.out.blk.cell 8 _ rfl
      have hlti : decide ((k : Int) < (t.f8.length : Int)) = true := decide_eq_true (by omega)
      obtain ⟨x, hx⟩ : ∃ x, t.f8[k] = x := ⟨_, rfl⟩
      have HXX := Veil.mk hx
      rw [hx] at h1 h2 h5
      clear hx
      by_cases hp : x.f1 = 2
      · have e1 : (x.f1 == 2) = true := beq_iff_eq.2 hp
        clear hp
        by_cases hq : x.f2 = obj
        · have e2 : (x.f2 == obj) = true := beq_iff_eq.2 hq
          clear hq
          go_wp2
          go_roundw
          case rel => exact ⟨k + 1, by omega, by go_num, ⟨by rw [relTo_next obj t.f8 k hlt, HXX.out, relAcc_yes e1 e2]; exact release_step HR.out (HXX.out ▸ relTo_at obj t.f8 k hlt)⟩, ⟨HU.out.setCell (p := ⟨g, k * 6 + 5, none⟩) (fun _ => rfl) _⟩⟩
          case measure => simp [intOf]; omega
        · have e2 : (x.f2 == obj) = false := beq_eq_false_iff_ne.2 hq
          clear hq
          go_wp2
          go_roundw
          case rel => exact ⟨k + 1, by omega, by go_num, ⟨by rw [relTo_same hlt HXX.out (relAcc_no2 e2)]; exact HR.out⟩, HU⟩
          case measure => simp [intOf]; omega
      · have e1 : (x.f1 == 2) = false := beq_eq_false_iff_ne.2 hp
        clear hp
        go_wp2
        go_roundw
        case rel => exact ⟨k + 1, by omega, by go_num, ⟨by rw [relTo_same hlt HXX.out (relAcc_no1 e1)]; exact HR.out⟩, HU⟩
        case measure => simp [intOf]; omega
    · have hkl : k = t.f8.length := by omega
      have hlti : decide ((k : Int) < (t.f8.length : Int)) = false := decide_eq_false (by omega)
      have HF : Veil (TryAt wr base bt (withAcc t (t.f8.map (relAcc obj))) (.slice A t.f8.length c)) := ⟨by have := HR.out; rwa [hkl, relTo_all] at this⟩
      clear hkl
      go_wp2
      go_end0
      exact ⟨rfl, HF.out, HU.out⟩
end Go.Proofs.Ytjmnbbflahacoaa.Hist
