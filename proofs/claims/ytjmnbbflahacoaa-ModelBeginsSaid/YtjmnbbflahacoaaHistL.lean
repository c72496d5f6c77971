/- hist, twelfth part: Right, Tries, Of, Before. No condition. -/
import Derived.Test.YtjmnbbflahacoaaHistK
namespace Go.Proofs.Ytjmnbbflahacoaa.Hist
open Go.RowKit Go.ChangeMaps Go.Maps Go.Proofs.Ytjmnbbflahacoaa.Mem Go.Proofs.Ytjmnbbflahacoaa.PHistTells Go.Proofs.YtjmnbbflahacoaaW.PrintWords
set_option linter.unusedVariables false
set_option linter.unusedSimpArgs false

theorem info31 : (Try.prog.info? 31).map (fun i => (i.zero, i.size, i.bytes)) = some (some (.agg #[(.int .i64 0), (.int .i64 0), (.int .i64 0), (.int .i64 0), (.int .i64 0), (.int .i64 0), (.int .i64 0)]), 7, 56) := by kernel_rfl
def rightM (l : List Ev) : Bool := (readM l).isSome
def triesM (l : List Ev) : List Tr := (readM l).getD []
def ofM (l : List Ev) (th tx : Int) : List Tr := (triesM l).filter (fun t => t.f0 == th && t.f1 == tx)
def beforeM (l : List Ev) (place : Int) : Nat := (l.take place.toNat).countP (fun e => e.f0 == 5)

set_option maxHeartbeats 1600000 in
set_option maxRecDepth 100000 in
theorem right_any (w : World) (A : Option Addr) (c : Nat) (l : List Ev) (hC : kEv.C w A l.length l) (hl : l.length ≤ 1000000000) (hok : ∀ e ∈ l, EvOk e) :
    Calls Try.prog 20 #[.slice A l.length c] w fun e w' => e = .returned (.bool (rightM l)) ∧ Below w.heap.size w w' := by
  have HR := Veil.mk (read_any w A c l hC hl hok)
  clear hC hl hok
  obtain ⟨r, hr⟩ : ∃ r, rightM l = r := ⟨_, rfl⟩
  have hp : Veil (∀ ed w', ReadPost w l ed w' → ∃ v, ed = .returned (.tuple #[.pointer v, .bool r]) ∧ Below w.heap.size w w') := ⟨fun ed w' h => by
    unfold ReadPost at h
    rw [← hr]
    unfold rightM
    cases hm : readM l with
    | none => rw [hm] at h; exact ⟨_, h.2, h.1⟩
    | some ts => rw [hm] at h; exact ⟨_, h.2.1, h.1⟩⟩
  rw [hr]
  clear hr
  go_enter Try.func20, Try.ntmps20
  go_wp2_with (first | (go_at_call 50; refine HR.out.mono ?_; intro ed w2 h; have h' := hp.out ed w2 h; obtain ⟨v, rfl, hb⟩ := h'; have HB2 := Veil.mk hb; clear h hb))
  go_ret
  exact ⟨rfl, HB2.out⟩

set_option maxRecDepth 100000 in
theorem tries1_any (w : World) (b : Nat) : Calls Try.prog 52 #[.pointer (some ⟨b, 0, none⟩)] w fun e w' => e = .returned (.bool true) ∧ Below w.heap.size w w' := by
  go_enter Try.func52, Try.ntmps52
  go_wp2
  go_ret
  exact ⟨rfl, Below.refl _ _⟩

set_option maxHeartbeats 1600000 in
set_option maxRecDepth 100000 in
theorem tries_any (w : World) (A : Option Addr) (c : Nat) (l : List Ev) (hC : kEv.C w A l.length l) (hl : l.length ≤ 1000000000) (hok : ∀ e ∈ l, EvOk e) :
    Calls Try.prog 21 #[.slice A l.length c] w fun e w' => ∃ v, e = .returned v ∧ kTr.R 29 w' w.heap.size (fun _ => True) v (triesM l) ∧ Below w.heap.size w w' := by
  have HR := Veil.mk (all_any w A c l hC hl hok 52 #[] (fun _ => true) (enters_of Try.func52 (by kernel_rfl) rfl) (fun W base b t row _ _ => tries1_any W b))
  clear hC hl hok
  go_enter Try.func21, Try.ntmps21
  go_wp2_with (first | (go_at_call 51; refine HR.out.mono ?_; rintro ed w2 ⟨v, rfl, hv, hb⟩; have HV := Veil.mk hv; have HB2 := Veil.mk hb; clear hv hb))
  go_ret
  have h := HV.out
  rw [List.filter_eq_self.2 (fun _ _ => rfl)] at h
  exact ⟨v, rfl, h, HB2.out⟩

set_option maxHeartbeats 1600000 in
set_option maxRecDepth 100000 in
theorem of1_any (w : World) (base b b1 b2 : Nat) (t : Tr) (row : Value) (th tx : Int) (hT : TryAt w base b t row) (h1 : w.cell? ⟨b1, 0, none⟩ = some (.int .i64 th)) (h2 : w.cell? ⟨b2, 0, none⟩ = some (.int .i64 tx)) :
    Calls Try.prog 53 #[.pointer (some ⟨b, 0, none⟩), .pointer (some ⟨b1, 0, none⟩), .pointer (some ⟨b2, 0, none⟩)] w fun e w' => e = .returned (.bool (t.f0 == th && t.f1 == tx)) ∧ Below w.heap.size w w' := by
  have t0 := hT.blk.cell 0 _ rfl
  have t1 := hT.blk.cell 1 _ rfl
  clear hT
  cases e1 : (t.f0 == th) with
  | true =>
    go_enter Try.func53, Try.ntmps53
    go_wp2_with fail
    go_quiet (fail)
    go_wp2
    go_ret
    exact ⟨by simp, (Below.refl _ _).drewN _⟩
  | false =>
    go_enter Try.func53, Try.ntmps53
    go_wp2_with fail
    go_quiet (fail)
    go_wp2
    go_ret
    exact ⟨by simp, (Below.refl _ _).drewN _⟩

set_option maxHeartbeats 1600000 in
set_option maxRecDepth 100000 in
theorem of_any (w : World) (A : Option Addr) (c : Nat) (l : List Ev) (th tx : Int) (hC : kEv.C w A l.length l) (hl : l.length ≤ 1000000000) (hok : ∀ e ∈ l, EvOk e) :
    Calls Try.prog 22 #[.slice A l.length c, .int .i64 th, .int .i64 tx] w fun e w' => ∃ v, e = .returned v ∧ kTr.R 29 w' w.heap.size (fun _ => True) v (ofM l th tx) ∧ Below w.heap.size w w' := by
  have hb : Below w.heap.size w ((w.alloc (.cells #[.int .i64 th] 3)).alloc (.cells #[.int .i64 tx] 3)) := ((Below.refl _ _).alloc (Nat.le_refl _) _).alloc (by simp) _
  have hs : (w.alloc (.cells #[.int .i64 th] 3)).heap.size = w.heap.size + 1 := by simp
  have k1 := (Blk.new w #[.int .i64 th] 3).alloc (.cells #[.int .i64 tx] 3)
  have k2 := Blk.new (w.alloc (.cells #[.int .i64 th] 3)) #[.int .i64 tx] 3
  rw [hs] at k2
  have HR := Veil.mk (all_any ((w.alloc (.cells #[.int .i64 th] 3)).alloc (.cells #[.int .i64 tx] 3)) A c l (Kd.C_below hC hb) hl hok 53 #[.pointer (some ⟨w.heap.size, 0, none⟩), .pointer (some ⟨w.heap.size + 1, 0, none⟩)] (fun t => t.f0 == th && t.f1 == tx) (enters_of Try.func53 (by kernel_rfl) rfl)
    (fun W base b t row hS hT => of1_any W base b _ _ t row th tx hT ((World.cell?_of_block (hS _ _ (blk_typed k1))).trans (k1.cell 0 _ rfl)) ((World.cell?_of_block (hS _ _ (blk_typed k2))).trans (k2.cell 0 _ rfl))))
  have HBB := Veil.mk hb
  clear hC hl hok hb hs k1 k2
  go_enter Try.func22, Try.ntmps22
  go_wp2_with (first | (go_at_call 51; refine HR.out.mono ?_; rintro ed w2 ⟨v, rfl, hv, hb⟩; have HV := Veil.mk hv; have HB2 := Veil.mk hb; clear hv hb))
  go_ret
  exact ⟨v, rfl, Kd.R_lower HV.out HBB.out.size, below_of HBB.out HB2.out⟩

set_option maxHeartbeats 1600000 in
set_option maxRecDepth 100000 in
theorem before_any (w : World) (A : Option Addr) (c : Nat) (l : List Ev) (place : Int) (hC : kEv.C w A l.length l) (hc : l.length ≤ c) (hl : l.length ≤ 1000000000) :
    Calls Try.prog 23 #[.slice A l.length c, .int .i64 place] w fun e w' => e = .returned (.int .i64 (beforeM l place)) ∧ Below w.heap.size w w' := by
  obtain ⟨j3, hj3⟩ : ∃ j : Int, (if (l.length : Int) < place then (l.length : Int) else place) = j := ⟨_, rfl⟩
  obtain ⟨j4, hj4⟩ : ∃ j : Int, (if 0 < j3 then j3 else 0) = j := ⟨_, rfl⟩
  obtain ⟨y, hy⟩ : ∃ y, y = l.take place.toNat := ⟨_, rfl⟩
  have hyl : j4 = (y.length : Int) := by
    rw [hy, List.length_take, ← hj4, ← hj3]
    split <;> split <;> omega
  have hyC : kEv.C w A y.length y := by
    rw [hy]
    rcases Nat.lt_or_ge place.toNat l.length with h | h
    · exact Kd.C_take hC (by omega)
    · rw [List.take_of_length_le h]; exact hC
  have hylen : y.length ≤ l.length := by rw [hy, List.length_take]; omega
  obtain ⟨i0, hi0, hz0, hsz, hby⟩ := info_parts info31
  have hcut := cut_to (P := Try.prog) 22 31 .i64 Try.underlying22 hi0 A l.length c j4 (by omega) (by omega) hc
  rw [hyl, Int.toNat_natCast] at hcut
  rw [hyl] at hj4
  have hm : beforeM l place = y.countP (fun e => e.f0 == 5) := by unfold beforeM; rw [← hy]
  have HC := Veil.mk hyC
  have HL := Veil.mk (Nat.le_trans hylen hl)
  have HM := Veil.mk hm
  clear hC hl hc hi0 hsz hm hz0 hby hyl hyC hylen hy
  have hy0 : decide (0 ≤ (y.length : Int)) = true := decide_eq_true (by omega)
  go_enter Try.func23, Try.ntmps23
  go_wp2
  go_loopw [5, 7, 16] (fun v5 v7 v16 wr => ∃ k : Nat, k ≤ y.length ∧ v5 = .int .i64 ((y.take k).countP (fun e => e.f0 == 5) : Nat) ∧ v16 = .int .i64 k ∧ Veil (Below w.heap.size w wr)) (fun _ _ v16 _ => y.length - (intOf v16).toNat)
  case atStart => exact ⟨0, Nat.zero_le _, rfl, rfl, ⟨Below.refl _ _⟩⟩
  case round =>
    obtain ⟨k, hk, rfl, rfl, HW⟩ := hrel
    have hlen := HL.out
    by_cases hlt : k < y.length
    · have hC' := Kd.C_below HC.out HW.out
      obtain ⟨ad, rfl, h0, h1, h2, h3, h4, h5, h6⟩ := at_T31 hC' (k : Int) (by omega) (by omega)
      simp only [Int.toNat_natCast] at h0 h1 h2 h3 h4 h5 h6
      have hlti : decide ((k : Int) < (y.length : Int)) = true := decide_eq_true (by omega)
      have hx : rd_T31 y (k : Int) = y[k] := by unfold rd_T31; simp [List.getD, hlt]
      obtain ⟨x, hxx⟩ : ∃ x, rd_T31 y (k : Int) = x := ⟨_, rfl⟩
      rw [hxx] at h0 h1 h2 h3 h4 h5 h6
      have hs : (y.take (k + 1)).countP (fun e => e.f0 == 5) = (y.take k).countP (fun e => e.f0 == 5) + (if x.f0 == 5 then 1 else 0) := by
        rw [List.take_succ_eq_append_getElem hlt, List.countP_append, List.countP_singleton, ← hx, hxx]
      have HS := Veil.mk hs
      obtain ⟨q, hq⟩ : ∃ q, (y.take k).countP (fun e => e.f0 == 5) = q := ⟨_, rfl⟩
      have hqb : q ≤ 1000000000 := by rw [← hq]; exact Nat.le_trans List.countP_le_length (by rw [List.length_take]; omega)
      rw [hq]
      have HQ := Veil.mk hq
      clear hxx hx hs hq
      cases h5' : (x.f0 == 5) with
      | true =>
        go_wp2
        go_roundw
        case rel => exact ⟨k + 1, by omega, by rw [HS.out, HQ.out, h5']; go_num, by go_num, ⟨HW.out.alloc HW.out.size _⟩⟩
        case measure => simp [intOf]; omega
      | false =>
        go_wp2
        go_roundw
        case rel => exact ⟨k + 1, by omega, by rw [HS.out, HQ.out, h5']; rfl, by go_num, ⟨HW.out.alloc HW.out.size _⟩⟩
        case measure => simp [intOf]; omega
    · have hkl : k = y.length := by omega
      have hlti : decide ((k : Int) < (y.length : Int)) = false := decide_eq_false (by omega)
      have HF : Veil ((y.take k).countP (fun e => e.f0 == 5) = beforeM l place) := ⟨by rw [hkl, List.take_length, HM.out]⟩
      clear hkl
      go_wp2
      go_ret
      exact ⟨by rw [← HF.out]; rfl, HW.out⟩
end Go.Proofs.Ytjmnbbflahacoaa.Hist
