/- hist, first part: Try.open, and what asks a try's accesses. No condition. -/
import Derived.Test.YtjmnbbflahacoaaProg
import Derived.Test.YtjmnbbflahacoaaBase
import Derived.Test.YtjmnbbflahacoaaPHistTellsx0
import Derived.WideKeyPair
namespace Go.Proofs.Ytjmnbbflahacoaa.Hist
open Go.RowKit Go.Proofs.Ytjmnbbflahacoaa.Mem
set_option linter.unusedVariables false

theorem open_nil (w : World) : Calls Try.prog 91 #[.pointer none] w fun e w' => e = .returned (.bool false) ∧ w = w' := by
  go_enter Try.func91, Try.ntmps91
  go_wp2
  go_ret
  exact ⟨rfl, rfl⟩

theorem open_at (w : World) (b : Nat) (n : Int) (hc : w.cell? ⟨b, 5, none⟩ = some (.int .i64 n)) :
    Calls Try.prog 91 #[.pointer (some ⟨b, 0, none⟩)] w fun e w' => e = .returned (.bool (decide (n < 0))) ∧ w = w' := by
  go_enter Try.func91, Try.ntmps91
  go_wp2
  go_ret
  exact ⟨rfl, rfl⟩
end Go.Proofs.Ytjmnbbflahacoaa.Hist
/- hist, second part: whether a try wrote an object (access's question, over slices.ContainsFunc). No condition. -/
namespace Go.Proofs.Ytjmnbbflahacoaa.Hist
open Go.RowKit Go.Proofs.Ytjmnbbflahacoaa.Mem Go.Proofs.Ytjmnbbflahacoaa.PHistTells Go.Proofs.YtjmnbbflahacoaaW.PrintWords
set_option linter.unusedVariables false
set_option linter.unusedSimpArgs false

abbrev Ev := S31
abbrev Acc := S33
abbrev Tr := S29
abbrev kEv := k31
abbrev kAcc := k33
abbrev kTr := k29

/-- Is an access an EvWrite of the object? -/
def wrote (obj : Int) (a : Acc) : Bool := a.f1 == 3 && a.f2 == obj

theorem below_of {w w1 w2 : World} (h : Below w.heap.size w w1) (k : Below w1.heap.size w1 w2) : Below w.heap.size w w2 := h.trans (k.mono h.size)

set_option maxHeartbeats 400000 in
theorem access1_any (w : World) (a0 a1 a2 a3 : Int) (a4 a5 : Bool) (b : Nat) (obj : Int) (hb : w.cell? ⟨b, 4, none⟩ = some (.int .i64 obj)) :
    Calls Try.prog 112 #[.agg #[.int .i64 a0, .int .i64 a1, .int .i64 a2, .int .i64 a3, .bool a4, .bool a5], .pointer (some ⟨b, 0, none⟩)] w
      fun e w' => e = .returned (.bool (a1 == 3 && a2 == obj)) ∧ Below w.heap.size w w' := by
  have hb1 := alloc_cell hb
  by_cases h1 : a1 = 3
  · have e1 : (a1 == 3) = true := beq_iff_eq.2 h1
    clear h1
    go_enter Try.func112, Try.ntmps112
    go_wp2
    go_ret
    exact ⟨by simp [e1], (Below.refl _ _).alloc (Nat.le_refl _) _⟩
  · have e1 : (a1 == 3) = false := beq_eq_false_iff_ne.2 h1
    clear h1
    go_enter Try.func112, Try.ntmps112
    go_wp2
    go_ret
    exact ⟨by simp [e1], (Below.refl _ _).alloc (Nat.le_refl _) _⟩

theorem access1_of (w : World) (x : Acc) (b : Nat) (obj : Int) (hb : w.cell? ⟨b, 4, none⟩ = some (.int .i64 obj)) :
    Calls Try.prog 112 #[.agg #[.int .i64 x.f0, .int .i64 x.f1, .int .i64 x.f2, .int .i64 x.f3, .bool x.f4, .bool x.f5], .pointer (some ⟨b, 0, none⟩)] w
      fun e w' => e = .returned (.bool (wrote obj x)) ∧ Below w.heap.size w w' := access1_any w _ _ _ _ _ _ b obj hb

/-- The first place from i on at which p holds; -1: none. -/
def firstAt {α : Type} (p : α → Bool) : List α → Int → Int
  | [], _ => -1
  | x :: xs, i => if p x then i else firstAt p xs (i + 1)

theorem firstAt_lt {α : Type} (p : α → Bool) (xs : List α) : ∀ i : Int, 0 ≤ i → decide (0 ≤ firstAt p xs i) = xs.any p := by
  induction xs with
  | nil => intro i _; simp [firstAt]
  | cons x xs ih =>
    intro i hi
    unfold firstAt
    by_cases h : p x = true
    · simp [h, hi]
    · rw [if_neg h, ih (i + 1) (by omega)]; simp [h]

set_option maxHeartbeats 800000 in
theorem index_any (w : World) (A : Option Addr) (c : Nat) (xs : List Acc) (b : Nat) (obj : Int) (hC : Kd.C kAcc w A xs.length xs) (hc : xs.length ≤ c) (hb : w.cell? ⟨b, 4, none⟩ = some (.int .i64 obj)) :
    Calls Try.prog 120 #[.slice A xs.length c, .func (.func 112) #[] #[.pointer (some ⟨b, 0, none⟩)]] w
      fun e w' => e = .returned (.int .i64 (firstAt (wrote obj) xs 0)) ∧ Below w.heap.size w w' := by
  have HC := Veil.mk hC
  have HB := Veil.mk hb
  have HL := Veil.mk hC.2.1
  clear hC hb hc
  go_enter Try.func120, Try.ntmps120
  go_wp2
  go_loopw [5, 8] (fun v5 v8 wr => ∃ k : Nat, k ≤ xs.length ∧ v8 = .int .i64 k ∧ Veil (firstAt (wrote obj) xs 0 = firstAt (wrote obj) (xs.drop k) k) ∧ Veil (Below w.heap.size w wr)) (fun _ v8 _ => xs.length - (intOf v8).toNat)
  case atStart => exact ⟨0, Nat.zero_le _, rfl, ⟨by simp⟩, ⟨Below.refl _ _⟩⟩
  case round =>
    obtain ⟨k, hk, rfl, HF, HW⟩ := hrel
    have hm := HL.out
    by_cases hlt : k < xs.length
    · have hC' := Kd.C_below HC.out HW.out
      obtain ⟨ad, rfl, h0, h1, h2, h3, h4, h5⟩ := at_T33 hC' (k : Int) (by omega) (by omega)
      simp only [Int.toNat_natCast] at h0 h1 h2 h3 h4 h5
      have hlti : decide ((k : Int) < (xs.length : Int)) = true := decide_eq_true (by omega)
      have hx : rd_T33 xs (k : Int) = xs[k] := by unfold rd_T33; simp [List.getD, hlt]
      obtain ⟨x, hxx⟩ : ∃ x, rd_T33 xs (k : Int) = x := ⟨_, rfl⟩
      rw [hxx] at h0 h1 h2 h3 h4 h5
      have HX : Veil (xs.drop k = x :: xs.drop (k + 1)) := ⟨by rw [List.drop_eq_getElem_cons hlt, ← hx, hxx]⟩
      clear hxx hx
      have HB2 := (HW.out.cell (p := ⟨b, 4, none⟩) (World.block_lt_of_cell? w _ HB.out)).trans HB.out
      have HB3 := Veil.mk HB2
      clear HB2
      by_cases hp : wrote obj x = true
      · have HR : Veil (firstAt (wrote obj) xs 0 = (k : Int)) := ⟨by rw [HF.out, HX.out, firstAt, if_pos hp]⟩
        go_wp2_with (go_at_call 112; refine (access1_of _ x b obj HB3.out).mono ?_; rintro e w' ⟨rfl, hbw⟩; have HW2 := Veil.mk (below_of HW.out hbw); clear hbw)
        go_ret
        exact ⟨by rw [HR.out]; rfl, HW2.out⟩
      · have hp' : wrote obj x = false := by simpa using hp
        clear hp
        have HR : Veil (firstAt (wrote obj) xs 0 = firstAt (wrote obj) (xs.drop (k + 1)) ((k + 1 : Nat) : Int)) := ⟨by rw [HF.out, HX.out, firstAt, if_neg (by simp [hp'])]; rfl⟩
        go_wp2_with (go_at_call 112; refine (access1_of _ x b obj HB3.out).mono ?_; rintro e w' ⟨rfl, hbw⟩; have HW2 := Veil.mk (below_of HW.out hbw); clear hbw)
        go_roundw
        case rel => exact ⟨k + 1, by omega, by go_num, HR, HW2⟩
        case measure => simp [intOf]; omega
    · have hkl : k = xs.length := by omega
      have HR : Veil (firstAt (wrote obj) xs 0 = -1) := ⟨by rw [HF.out, hkl, List.drop_length]; rfl⟩
      have hlti : decide ((k : Int) < (xs.length : Int)) = false := decide_eq_false (by omega)
      clear hkl
      go_wp2
      go_ret
      exact ⟨by rw [HR.out]; rfl, HW.out⟩

set_option maxHeartbeats 800000 in
theorem contains_any (w : World) (A : Option Addr) (c : Nat) (xs : List Acc) (b : Nat) (obj : Int) (hC : Kd.C kAcc w A xs.length xs) (hc : xs.length ≤ c) (hb : w.cell? ⟨b, 4, none⟩ = some (.int .i64 obj)) :
    Calls Try.prog 111 #[.slice A xs.length c, .func (.func 112) #[] #[.pointer (some ⟨b, 0, none⟩)]] w
      fun e w' => e = .returned (.bool (xs.any (wrote obj))) ∧ Below w.heap.size w w' := by
  have HC := Veil.mk hC
  have HB := Veil.mk hb
  have HL := Veil.mk hc
  have HA := Veil.mk (firstAt_lt (wrote obj) xs 0 (by omega))
  clear hC hb hc
  go_enter Try.func111, Try.ntmps111
  go_wp2_with (go_at_call 120; refine (index_any _ A c xs b obj HC.out HL.out HB.out).mono ?_; rintro e w' ⟨rfl, hbw⟩; have HW := Veil.mk hbw; clear hbw)
  go_ret
  exact ⟨by rw [HA.out]; rfl, HW.out⟩
end Go.Proofs.Ytjmnbbflahacoaa.Hist
/- hist, third part: a try in memory; access and release. No condition. -/
namespace Go.Proofs.Ytjmnbbflahacoaa.Hist
open Go.RowKit Go.Proofs.Ytjmnbbflahacoaa.Mem Go.Proofs.Ytjmnbbflahacoaa.PHistTells Go.Proofs.YtjmnbbflahacoaaW.PrintWords
set_option linter.unusedVariables false
set_option linter.unusedSimpArgs false

def evV (e : Ev) : Value := .agg #[.int .i64 e.f0, .int .i64 e.f1, .int .i64 e.f2, .int .i64 e.f3, .int .i64 e.f4, .int .i64 e.f5, .int .i64 e.f6]
def evC (e : Ev) : List Value := [.int .i64 e.f0, .int .i64 e.f1, .int .i64 e.f2, .int .i64 e.f3, .int .i64 e.f4, .int .i64 e.f5, .int .i64 e.f6]
def trC (t : Tr) (row : Value) : List Value := [.int .i64 t.f0, .int .i64 t.f1, .int .i64 t.f2, .int .i64 t.f3, .int .i64 t.f4, .int .i64 t.f5, .int .i64 t.f6, .bool t.f7, row]

/-- A try that lies in block b, its accesses' row the value row. -/
structure TryAt (w : World) (base b : Nat) (t : Tr) (row : Value) : Prop where
  blk : Blk w b 29 (trC t row)
  low : base ≤ b
  acc : kAcc.R 33 w base (fun _ => True) row t.f8

theorem TryAt.upd {S : Nat → Prop} {w w' : World} {base b : Nat} {t : Tr} {row : Value} (h : TryAt w base b t row) (hu : Upd S w w') (hn : ¬ S b) (hr : ∀ k, row.ownBlock = some k → ¬ S k) : TryAt w' base b t row :=
  ⟨h.blk.upd hu hn, h.low, by
    obtain ⟨inner, ho⟩ := Kd.R_own h.acc
    have h2 : kAcc.R 33 w base (fun k => row.ownBlock = some k) row t.f8 := Kd.R_tight (by rfl) h.acc |> fun h => Kd.R_mono h (fun k hk => hk.symm)
    exact Kd.R_mono (Kd.R_step h2 (fun k hk hlt => hu.block k hlt (hr k hk))) (fun _ _ => trivial)⟩

/-- An access, as it is put down. -/
def accOf (t : Tr) (i : Int) (e : Ev) : Acc := ⟨i, e.f0, e.f4, e.f5, e.f0 == 2 && t.f8.any (wrote e.f4), false⟩
def withAcc (t : Tr) (l : List Acc) : Tr := { t with f8 := l }

theorem info33 : (Try.prog.info? 33).map (fun i => (i.zero, i.size, i.bytes)) = some (some (.agg #[.int .i64 0, .int .i64 0, .int .i64 0, .int .i64 0, .bool false, .bool false]), 6, 40) := by kernel_rfl

theorem not_row {w : World} {base b : Nat} {t : Tr} {row : Value} (h : TryAt w base b t row) : some b ≠ row.ownBlock := by
  intro hr0
  have hr := hr0.symm
  · obtain ⟨inner, ho⟩ := Kd.R_own h.acc
    obtain ⟨cells, hc⟩ := own_typed ho b hr
    have := h.blk
    unfold Blk at this
    rw [hc] at this
    injection this with this
    injection this with _ this
    exact absurd this (by decide)
theorem row_lt {w : World} {base b : Nat} {t : Tr} {row : Value} (h : TryAt w base b t row) {k : Nat} (hk : row.ownBlock = some k) : k < w.heap.size := by
  obtain ⟨inner, ho⟩ := Kd.R_own h.acc
  exact own_lt ho k hk

theorem access_close {w w1 w2 : World} {base bt : Nat} {t : Tr} {A A1 : Option Addr} {c c1 : Nat} {x y : Acc} (HT : TryAt w base bt t (.slice A t.f8.length c)) (HW : Below w.heap.size w w1)
    (hg : w1.drew.grownBy w2 (Value.slice A t.f8.length c).ownBlock) (hBt : Blk w2 bt 29 (trC t (.slice A t.f8.length c))) (hx : y = x)
    (hR : kAcc.R 33 w2 base (fun _ => True) (.slice A1 (t.f8 ++ [x]).length c1) (t.f8 ++ [x]))
    (hat : (Value.slice A1 (t.f8 ++ [x]).length c1).ownBlock = (Value.slice A t.f8.length c).ownBlock ∨ ∃ b, (Value.slice A1 (t.f8 ++ [x]).length c1).ownBlock = some b ∧ w1.drew.heap.size ≤ b) :
    ∃ row', TryAt (w2.setCell ⟨bt, 8, none⟩ (.slice A1 (t.f8.length + 1) c1)) base bt (withAcc t (t.f8 ++ [y])) row' ∧ Upd (fun k => k = bt ∨ (Value.slice A t.f8.length c).ownBlock = some k) w (w2.setCell ⟨bt, 8, none⟩ (.slice A1 (t.f8.length + 1) c1)) ∧
      (row'.ownBlock = (Value.slice A t.f8.length c).ownBlock ∨ ∃ b, row'.ownBlock = some b ∧ w.heap.size ≤ b) := by
  subst hx
  have hl : (t.f8 ++ [y]).length = t.f8.length + 1 := by simp
  rw [hl] at hR hat
  have hne := Kd.R_ne hR hBt (by decide)
  refine ⟨.slice A1 (t.f8.length + 1) c1, ⟨hBt.set 8 _, HT.low, ?_⟩, (((Upd.ofBelow HW _).drew.grown hg (fun k hk _ => .inr hk)).setCell (fun _ => .inl rfl) _), ?_⟩
  · exact Kd.R_mono (Kd.R_far (p := ⟨bt, 8, none⟩) (Kd.R_tight (by rfl) hR) (fun k hk he => hne (by rw [← hk]; exact congrArg some he.symm)) _) (fun _ _ => trivial)
  · rcases hat with h | ⟨b, h, hb⟩
    · exact .inl h
    · exact .inr ⟨b, h, Nat.le_trans HW.size hb⟩

set_option maxHeartbeats 1600000 in
set_option maxRecDepth 100000 in
theorem access_any (w : World) (base bt : Nat) (t : Tr) (row : Value) (i : Int) (e : Ev) (hT : TryAt w base bt t row) (hl : t.f8.length ≤ 1000000000) (hbase : base ≤ w.heap.size) :
    Calls Try.prog 92 #[.pointer (some ⟨bt, 0, none⟩), .int .i64 i, .agg #[.int .i64 e.f0, .int .i64 e.f1, .int .i64 e.f2, .int .i64 e.f3, .int .i64 e.f4, .int .i64 e.f5, .int .i64 e.f6]] w
      fun ed w' => ed = .returned (.tuple #[]) ∧ ∃ row', TryAt w' base bt (withAcc t (t.f8 ++ [accOf t i e])) row' ∧ Upd (fun k => k = bt ∨ row.ownBlock = some k) w w' ∧ (row'.ownBlock = row.ownBlock ∨ ∃ b, row'.ownBlock = some b ∧ w.heap.size ≤ b) := by
  have hne := not_row hT
  have hne2 : some w.heap.size ≠ row.ownBlock := fun hk => Nat.lt_irrefl _ (row_lt hT hk.symm)
  obtain ⟨A, c, rfl, hc, hC⟩ := Kd.R_reads hT.acc
  have c8 := hT.blk.cell 8 _ rfl
  have hlt := hT.blk.lt
  have HT := Veil.mk hT
  have HC := Veil.mk hC
  have Hc := Veil.mk hc
  have HL := Veil.mk hl
  have HBs := Veil.mk hbase
  clear hT hC hc hl hbase
  by_cases h2 : e.f0 = 2
  · have e2 : (e.f0 == 2) = true := beq_iff_eq.2 h2
    clear h2
    have HEQ : Veil (accOf t i e = ⟨i, e.f0, e.f4, e.f5, t.f8.any (wrote e.f4), false⟩) := ⟨by unfold accOf; rw [e2]; rfl⟩
    go_enter Try.func92, Try.ntmps92
    have c8' := alloc_cell c8
    go_wp2_with (go_at_call 111; go_must (refine (contains_any _ A c t.f8 w.heap.size e.f4 (Kd.C_below HC.out ((Below.refl _ _).alloc (Nat.le_refl _) _)) Hc.out (by go_simp)).mono ?_); rintro ed w1 ⟨rfl, hbw⟩; have HE := Veil.mk ((Blk.new w _ 31).below hbw (by simp)); have HW := Veil.mk (below_of ((Below.refl _ _).alloc (Nat.le_refl _) _) hbw); clear hbw)
    clear c8'
    have lw1 := HW.out.size
    have HR := Veil.mk (Kd.R_below HT.out.acc HW.out)
    have cb8 : w1.cell? ⟨bt, 8, none⟩ = some (.slice A t.f8.length c) := (HW.out.cell (p := ⟨bt, 8, none⟩) hlt).trans c8
    have fb8 : w1.frozen? ⟨bt, 8, none⟩ = false := (HW.out.frozen (p := ⟨bt, 8, none⟩) hlt).trans (HT.out.blk.free 8)
    have ce0 : w1.cell? ⟨w.heap.size, 0, none⟩ = some (.int .i64 e.f0) := HE.out.cell 0 _ rfl
    have ce4 : w1.cell? ⟨w.heap.size, 4, none⟩ = some (.int .i64 e.f4) := HE.out.cell 4 _ rfl
    have ce5 : w1.cell? ⟨w.heap.size, 5, none⟩ = some (.int .i64 e.f5) := HE.out.cell 5 _ rfl
    have hbt : bt < w1.heap.size := Nat.lt_of_lt_of_le hlt lw1
    have hbe : w.heap.size < w1.heap.size := HE.out.lt
    have fb8' := alloc_frozen (a := ⟨bt, 8, none⟩) hbt fb8
    have HN1 := Veil.mk hne
    have HN2 := Veil.mk hne2
    clear hne hne2
    refine wp_region_X (fun w' => w'.cell? ⟨bt, 8, none⟩ = some (.slice A t.f8.length c) ∧ w'.frozen? ⟨bt, 8, none⟩ = false ∧ w'.cell? ⟨w.heap.size, 0, none⟩ = some (.int .i64 e.f0) ∧
        w'.cell? ⟨w.heap.size, 4, none⟩ = some (.int .i64 e.f4) ∧ w'.cell? ⟨w.heap.size, 5, none⟩ = some (.int .i64 e.f5)) [18] (by kernel_rfl) ?_
    have hS0 : w1.drew.cell? ⟨bt, 8, none⟩ = some (.slice A t.f8.length c) ∧ w1.drew.frozen? ⟨bt, 8, none⟩ = false ∧ w1.drew.cell? ⟨w.heap.size, 0, none⟩ = some (.int .i64 e.f0) ∧
        w1.drew.cell? ⟨w.heap.size, 4, none⟩ = some (.int .i64 e.f4) ∧ w1.drew.cell? ⟨w.heap.size, 5, none⟩ = some (.int .i64 e.f5) := ⟨cb8, fb8, ce0, ce4, ce5⟩
    refine wpAnyX_take (i := 0) (v := ?_) rfl (by kernel_rfl) (by kernel_rfl) (by kernel_rfl) (by kernel_rfl) (fun _ _ _ h => h) (Or.inl ⟨by rfl, ?_⟩) (by assumption) ?_
    rotate_left 1
    · intro w hSw; (try dsimp only at hSw); go_split_ands; (first | (go_simp; done) | (go_simp; with_reducible rfl))
    try simp only [Act.put, List.setIfInBounds_toArray, List.set_cons_zero, List.set_cons_succ]
    refine wpAnyX_take (i := 1) (v := ?_) rfl (by kernel_rfl) (by kernel_rfl) (by kernel_rfl) (by kernel_rfl) (fun _ _ _ h => h) (Or.inl ⟨by rfl, ?_⟩) (by assumption) ?_
    rotate_left 1
    · intro w hSw; (try dsimp only at hSw); go_split_ands; (first | (go_simp; done) | (go_simp; with_reducible rfl))
    try simp only [Act.put, List.setIfInBounds_toArray, List.set_cons_zero, List.set_cons_succ]
    refine wpAnyX_take (i := 2) (v := ?_) rfl (by kernel_rfl) (by kernel_rfl) (by kernel_rfl) (by kernel_rfl) (fun _ _ _ h => h) (Or.inl ⟨by rfl, ?_⟩) (by assumption) ?_
    rotate_left 1
    · intro w hSw; (try dsimp only at hSw); go_split_ands; (first | (go_simp; done) | (go_simp; with_reducible rfl))
    try simp only [Act.put, List.setIfInBounds_toArray, List.set_cons_zero, List.set_cons_succ]
    refine wpAnyX_take (i := 3) (v := ?_) rfl (by kernel_rfl) (by kernel_rfl) (by kernel_rfl) (by kernel_rfl) (fun _ _ _ h => h) (Or.inl ⟨by rfl, ?_⟩) (by assumption) ?_
    rotate_left 1
    · intro w hSw; (try dsimp only at hSw); go_split_ands; (first | (go_simp; done) | (go_simp; with_reducible rfl))
    try simp only [Act.put, List.setIfInBounds_toArray, List.set_cons_zero, List.set_cons_succ]
    refine wpAnyX_take (i := 4) (v := ?_) rfl (by kernel_rfl) (by kernel_rfl) (by kernel_rfl) (by kernel_rfl) (fun _ _ _ h => h) (Or.inl ⟨by rfl, ?_⟩) (by assumption) ?_
    rotate_left 1
    · intro w hSw; (try dsimp only at hSw); go_split_ands; (first | (go_simp; done) | (go_simp; with_reducible rfl))
    try simp only [Act.put, List.setIfInBounds_toArray, List.set_cons_zero, List.set_cons_succ]
    refine wpAnyX_take (i := 5) (v := ?_) rfl (by kernel_rfl) (by kernel_rfl) (by kernel_rfl) (by kernel_rfl) (fun _ _ _ h => h) (Or.inl ⟨by rfl, ?_⟩) (by assumption) ?_
    rotate_left 1
    · intro w hSw; (try dsimp only at hSw); go_split_ands; (first | (go_simp; done) | (go_simp; with_reducible rfl))
    try simp only [Act.put, List.setIfInBounds_toArray, List.set_cons_zero, List.set_cons_succ]
    refine wpAnyX_take (i := 6) (v := ?_) rfl (by kernel_rfl) (by kernel_rfl) (by kernel_rfl) (by kernel_rfl) (fun _ _ _ h => h) (Or.inl ⟨by rfl, ?_⟩) (by assumption) ?_
    rotate_left 1
    · intro w hSw; (try dsimp only at hSw); go_split_ands; (first | (go_simp; done) | (go_simp; with_reducible rfl))
    try simp only [Act.put, List.setIfInBounds_toArray, List.set_cons_zero, List.set_cons_succ]
    refine wpAnyX_take (i := 7) (v := ?_) rfl (by kernel_rfl) (by kernel_rfl) (by kernel_rfl) (by kernel_rfl) (fun _ _ _ h => h) (Or.inl ⟨by rfl, ?_⟩) (by assumption) ?_
    rotate_left 1
    · intro w hSw; (try dsimp only at hSw); go_split_ands; (first | (go_simp; done) | (go_simp; with_reducible rfl))
    try simp only [Act.put, List.setIfInBounds_toArray, List.set_cons_zero, List.set_cons_succ]
    refine wpAnyX_take (i := 8) (v := ?_) rfl (by kernel_rfl) (by kernel_rfl) (by kernel_rfl) (by kernel_rfl) (fun _ _ _ h => h) (Or.inl ⟨by rfl, ?_⟩) (by assumption) ?_
    rotate_left 1
    · intro w hSw; (try dsimp only at hSw); go_split_ands; (first | (go_simp; done) | (go_simp; with_reducible rfl))
    try simp only [Act.put, List.setIfInBounds_toArray, List.set_cons_zero, List.set_cons_succ]
    refine wpAnyX_take (i := 9) (v := ?_) rfl (by kernel_rfl) (by kernel_rfl) (by kernel_rfl) (by kernel_rfl) (fun _ _ _ h => h) (Or.inl ⟨by rfl, ?_⟩) (by assumption) ?_
    rotate_left 1
    · intro w hSw; (try dsimp only at hSw); go_split_ands; (first | (go_simp; done) | (go_simp; with_reducible rfl))
    try simp only [Act.put, List.setIfInBounds_toArray, List.set_cons_zero, List.set_cons_succ]
    refine wpAnyX_take (i := 10) (v := ?_) rfl (by kernel_rfl) (by kernel_rfl) (by kernel_rfl) (by kernel_rfl) (fun _ _ _ h => h) (Or.inl ⟨by rfl, ?_⟩) (by assumption) ?_
    rotate_left 1
    · intro w hSw; (try dsimp only at hSw); go_split_ands; (first | (go_simp; done) | (go_simp; with_reducible rfl))
    try simp only [Act.put, List.setIfInBounds_toArray, List.set_cons_zero, List.set_cons_succ]
    refine wpAnyX_take (i := 11) (v := ?_) rfl (by kernel_rfl) (by kernel_rfl) (by kernel_rfl) (by kernel_rfl) (fun _ _ _ h => h) (Or.inl ⟨by rfl, ?_⟩) (by assumption) ?_
    rotate_left 1
    · intro w hSw; (try dsimp only at hSw); go_split_ands; (first | (go_simp; done) | (go_simp; with_reducible rfl))
    try simp only [Act.put, List.setIfInBounds_toArray, List.set_cons_zero, List.set_cons_succ]
    refine wpAnyX_take (i := 12) (v := ?_) rfl (by kernel_rfl) (by kernel_rfl) (by kernel_rfl) (by kernel_rfl) (fun _ _ _ h => h) (Or.inl ⟨by rfl, ?_⟩) (by assumption) ?_
    rotate_left 1
    · intro w hSw; (try dsimp only at hSw); go_split_ands; (first | (go_simp; done) | (go_simp; with_reducible rfl))
    try simp only [Act.put, List.setIfInBounds_toArray, List.set_cons_zero, List.set_cons_succ]
    refine wpAnyX_take (i := 13) (v := ?_) rfl (by kernel_rfl) (by kernel_rfl) (by kernel_rfl) (by kernel_rfl) (fun _ _ _ h => h) (Or.inl ⟨by rfl, ?_⟩) (by assumption) ?_
    rotate_left 1
    · intro w hSw; (try dsimp only at hSw); go_split_ands; (first | (go_simp; done) | (go_simp; with_reducible rfl))
    try simp only [Act.put, List.setIfInBounds_toArray, List.set_cons_zero, List.set_cons_succ]
    clear hS0
    refine wpAnyX_one (i := 14) (by kernel_rfl) rfl (fun K hK => ?_)
    go_simp
    refine hK.out _ _ (fun _ => ⟨alloc_cell cb8 _, alloc_frozen (a := ⟨bt, 8, none⟩) hbt fb8 _, alloc_cell ce0 _, alloc_cell ce4 _, alloc_cell ce5 _⟩) ?_
    clear hK K
    refine wpAnyX_one (i := 15) (by kernel_rfl) rfl (fun K hK => ?_)
    rw [show ∀ o, (w1.alloc o).drew = w1.drew.alloc o from fun _ => rfl]
    refine Kd.R_append_step kAcc base (w0 := w1) rfl (.tmp 22) (.tmp 32) 27 33 (.agg #[.int .i64 0, .int .i64 0, .int .i64 0, .int .i64 0, .bool false, .bool false]) 40 rfl Try.underlying27 info33 rfl (by decide) (by omega) (.slice A t.f8.length c) t.f8 ⟨i, e.f0, e.f4, e.f5, t.f8.any (wrote e.f4), false⟩ _ (fun _ => True) (fun _ => False) rfl rfl (k33_mkM _ _ _ ⟨i, e.f0, e.f4, e.f5, t.f8.any (wrote e.f4), false⟩) (fun _ h => h.elim) (fun _ _ => trivial) HR.out (below_drew (Below.refl _ _)) (Nat.le_trans HBs.out lw1) (by have := HL.out; omega) ?_
    intro v1 w2 hR hB hg0 hat0
    have hg := Veil.mk hg0
    have hat := Veil.mk hat0
    have hRR := Veil.mk hR
    have cz8 : w2.cell? ⟨bt, 8, none⟩ = some (.slice A t.f8.length c) := (hg.out.cell_far ⟨bt, 8, none⟩ hbt HN1.out).trans cb8
    have fz8 : w2.frozen? ⟨bt, 8, none⟩ = false := (hg.out.frozen_far ⟨bt, 8, none⟩ hbt HN1.out).trans fb8
    have hBt : Veil (Blk w2 bt 29 (trC t (.slice A t.f8.length c))) := ⟨(hg.out.block bt hbt HN1.out).trans (HT.out.blk.below HW.out.drew hlt)⟩
    have HS2 := Veil.mk (And.intro cz8 (And.intro fz8 (And.intro ((hg.out.cell_far ⟨w.heap.size, 0, none⟩ hbe HN2.out).trans ce0) (And.intro ((hg.out.cell_far ⟨w.heap.size, 4, none⟩ hbe HN2.out).trans ce4) ((hg.out.cell_far ⟨w.heap.size, 5, none⟩ hbe HN2.out).trans ce5)))))
    refine hK.out _ _ (fun _ => HS2.out) ?_
    clear hK K
    obtain ⟨A1, c1, rfl, hc1, hC1⟩ := Kd.R_reads hR
    clear hg0 hat0 hR hB hc1 hC1 cb8 fb8 fb8' ce0 ce4 ce5 c8
    try simp only [Act.put, List.setIfInBounds_toArray, List.set_cons_zero, List.set_cons_succ]
    refine wpAnyX_one (i := 16) (by kernel_rfl) rfl (fun K hK => ?_)
    go_simp
    refine hK.out _ _ (fun _ => HS2.out) ?_
    clear hK K
    refine wpAnyX_one (i := 17) (by kernel_rfl) rfl (fun K hK => ?_)
    go_simp
    refine hK.out _ _ (fun _ => HS2.out) ?_
    clear hK K
    refine wpAnyX_one (i := 18) (by kernel_rfl) rfl (fun K hK => ?_)
    go_simp
    refine hK.out _ _ (fun h => by cases h) ?_
    clear hK K
    refine wpAnyX_done (by kernel_rfl) ?_ _
    go_wp2
    go_end0
    exact ⟨rfl, access_close HT.out HW.out hg.out hBt.out HEQ.out hRR.out hat.out⟩
  · have e2 : (e.f0 == 2) = false := beq_eq_false_iff_ne.2 h2
    clear h2
    have HEQ : Veil (accOf t i e = ⟨i, e.f0, e.f4, e.f5, false, false⟩) := ⟨by unfold accOf; rw [e2]; rfl⟩
    go_enter Try.func92, Try.ntmps92
    go_wp2_with fail
    have HE0 := Blk.new w #[.int .i64 e.f0, .int .i64 e.f1, .int .i64 e.f2, .int .i64 e.f3, .int .i64 e.f4, .int .i64 e.f5, .int .i64 e.f6] 31
    have HW0 := (Below.refl w.heap.size w).alloc (Nat.le_refl _) (.cells #[.int .i64 e.f0, .int .i64 e.f1, .int .i64 e.f2, .int .i64 e.f3, .int .i64 e.f4, .int .i64 e.f5, .int .i64 e.f6] 31)
    generalize w.alloc (.cells #[.int .i64 e.f0, .int .i64 e.f1, .int .i64 e.f2, .int .i64 e.f3, .int .i64 e.f4, .int .i64 e.f5, .int .i64 e.f6] 31) = w1 at *
    have HE := Veil.mk HE0
    have HW := Veil.mk HW0
    clear HE0 HW0
    have lw1 := HW.out.size
    have HR := Veil.mk (Kd.R_below HT.out.acc HW.out)
    have cb8 : w1.cell? ⟨bt, 8, none⟩ = some (.slice A t.f8.length c) := (HW.out.cell (p := ⟨bt, 8, none⟩) hlt).trans c8
    have fb8 : w1.frozen? ⟨bt, 8, none⟩ = false := (HW.out.frozen (p := ⟨bt, 8, none⟩) hlt).trans (HT.out.blk.free 8)
    have ce0 : w1.cell? ⟨w.heap.size, 0, none⟩ = some (.int .i64 e.f0) := HE.out.cell 0 _ rfl
    have ce4 : w1.cell? ⟨w.heap.size, 4, none⟩ = some (.int .i64 e.f4) := HE.out.cell 4 _ rfl
    have ce5 : w1.cell? ⟨w.heap.size, 5, none⟩ = some (.int .i64 e.f5) := HE.out.cell 5 _ rfl
    have hbt : bt < w1.heap.size := Nat.lt_of_lt_of_le hlt lw1
    have hbe : w.heap.size < w1.heap.size := HE.out.lt
    have fb8' := alloc_frozen (a := ⟨bt, 8, none⟩) hbt fb8
    have HN1 := Veil.mk hne
    have HN2 := Veil.mk hne2
    clear hne hne2
    refine wp_region_X (fun w' => w'.cell? ⟨bt, 8, none⟩ = some (.slice A t.f8.length c) ∧ w'.frozen? ⟨bt, 8, none⟩ = false ∧ w'.cell? ⟨w.heap.size, 0, none⟩ = some (.int .i64 e.f0) ∧
        w'.cell? ⟨w.heap.size, 4, none⟩ = some (.int .i64 e.f4) ∧ w'.cell? ⟨w.heap.size, 5, none⟩ = some (.int .i64 e.f5)) [18] (by kernel_rfl) ?_
    have hS0 : w1.drew.cell? ⟨bt, 8, none⟩ = some (.slice A t.f8.length c) ∧ w1.drew.frozen? ⟨bt, 8, none⟩ = false ∧ w1.drew.cell? ⟨w.heap.size, 0, none⟩ = some (.int .i64 e.f0) ∧
        w1.drew.cell? ⟨w.heap.size, 4, none⟩ = some (.int .i64 e.f4) ∧ w1.drew.cell? ⟨w.heap.size, 5, none⟩ = some (.int .i64 e.f5) := ⟨cb8, fb8, ce0, ce4, ce5⟩
    refine wpAnyX_take (i := 0) (v := ?_) rfl (by kernel_rfl) (by kernel_rfl) (by kernel_rfl) (by kernel_rfl) (fun _ _ _ h => h) (Or.inl ⟨by rfl, ?_⟩) (by assumption) ?_
    rotate_left 1
    · intro w hSw; (try dsimp only at hSw); go_split_ands; (first | (go_simp; done) | (go_simp; with_reducible rfl))
    try simp only [Act.put, List.setIfInBounds_toArray, List.set_cons_zero, List.set_cons_succ]
    refine wpAnyX_take (i := 1) (v := ?_) rfl (by kernel_rfl) (by kernel_rfl) (by kernel_rfl) (by kernel_rfl) (fun _ _ _ h => h) (Or.inl ⟨by rfl, ?_⟩) (by assumption) ?_
    rotate_left 1
    · intro w hSw; (try dsimp only at hSw); go_split_ands; (first | (go_simp; done) | (go_simp; with_reducible rfl))
    try simp only [Act.put, List.setIfInBounds_toArray, List.set_cons_zero, List.set_cons_succ]
    refine wpAnyX_take (i := 2) (v := ?_) rfl (by kernel_rfl) (by kernel_rfl) (by kernel_rfl) (by kernel_rfl) (fun _ _ _ h => h) (Or.inl ⟨by rfl, ?_⟩) (by assumption) ?_
    rotate_left 1
    · intro w hSw; (try dsimp only at hSw); go_split_ands; (first | (go_simp; done) | (go_simp; with_reducible rfl))
    try simp only [Act.put, List.setIfInBounds_toArray, List.set_cons_zero, List.set_cons_succ]
    refine wpAnyX_take (i := 3) (v := ?_) rfl (by kernel_rfl) (by kernel_rfl) (by kernel_rfl) (by kernel_rfl) (fun _ _ _ h => h) (Or.inl ⟨by rfl, ?_⟩) (by assumption) ?_
    rotate_left 1
    · intro w hSw; (try dsimp only at hSw); go_split_ands; (first | (go_simp; done) | (go_simp; with_reducible rfl))
    try simp only [Act.put, List.setIfInBounds_toArray, List.set_cons_zero, List.set_cons_succ]
    refine wpAnyX_take (i := 4) (v := ?_) rfl (by kernel_rfl) (by kernel_rfl) (by kernel_rfl) (by kernel_rfl) (fun _ _ _ h => h) (Or.inl ⟨by rfl, ?_⟩) (by assumption) ?_
    rotate_left 1
    · intro w hSw; (try dsimp only at hSw); go_split_ands; (first | (go_simp; done) | (go_simp; with_reducible rfl))
    try simp only [Act.put, List.setIfInBounds_toArray, List.set_cons_zero, List.set_cons_succ]
    refine wpAnyX_take (i := 5) (v := ?_) rfl (by kernel_rfl) (by kernel_rfl) (by kernel_rfl) (by kernel_rfl) (fun _ _ _ h => h) (Or.inl ⟨by rfl, ?_⟩) (by assumption) ?_
    rotate_left 1
    · intro w hSw; (try dsimp only at hSw); go_split_ands; (first | (go_simp; done) | (go_simp; with_reducible rfl))
    try simp only [Act.put, List.setIfInBounds_toArray, List.set_cons_zero, List.set_cons_succ]
    refine wpAnyX_take (i := 6) (v := ?_) rfl (by kernel_rfl) (by kernel_rfl) (by kernel_rfl) (by kernel_rfl) (fun _ _ _ h => h) (Or.inl ⟨by rfl, ?_⟩) (by assumption) ?_
    rotate_left 1
    · intro w hSw; (try dsimp only at hSw); go_split_ands; (first | (go_simp; done) | (go_simp; with_reducible rfl))
    try simp only [Act.put, List.setIfInBounds_toArray, List.set_cons_zero, List.set_cons_succ]
    refine wpAnyX_take (i := 7) (v := ?_) rfl (by kernel_rfl) (by kernel_rfl) (by kernel_rfl) (by kernel_rfl) (fun _ _ _ h => h) (Or.inl ⟨by rfl, ?_⟩) (by assumption) ?_
    rotate_left 1
    · intro w hSw; (try dsimp only at hSw); go_split_ands; (first | (go_simp; done) | (go_simp; with_reducible rfl))
    try simp only [Act.put, List.setIfInBounds_toArray, List.set_cons_zero, List.set_cons_succ]
    refine wpAnyX_take (i := 8) (v := ?_) rfl (by kernel_rfl) (by kernel_rfl) (by kernel_rfl) (by kernel_rfl) (fun _ _ _ h => h) (Or.inl ⟨by rfl, ?_⟩) (by assumption) ?_
    rotate_left 1
    · intro w hSw; (try dsimp only at hSw); go_split_ands; (first | (go_simp; done) | (go_simp; with_reducible rfl))
    try simp only [Act.put, List.setIfInBounds_toArray, List.set_cons_zero, List.set_cons_succ]
    refine wpAnyX_take (i := 9) (v := ?_) rfl (by kernel_rfl) (by kernel_rfl) (by kernel_rfl) (by kernel_rfl) (fun _ _ _ h => h) (Or.inl ⟨by rfl, ?_⟩) (by assumption) ?_
    rotate_left 1
    · intro w hSw; (try dsimp only at hSw); go_split_ands; (first | (go_simp; done) | (go_simp; with_reducible rfl))
    try simp only [Act.put, List.setIfInBounds_toArray, List.set_cons_zero, List.set_cons_succ]
    refine wpAnyX_take (i := 10) (v := ?_) rfl (by kernel_rfl) (by kernel_rfl) (by kernel_rfl) (by kernel_rfl) (fun _ _ _ h => h) (Or.inl ⟨by rfl, ?_⟩) (by assumption) ?_
    rotate_left 1
    · intro w hSw; (try dsimp only at hSw); go_split_ands; (first | (go_simp; done) | (go_simp; with_reducible rfl))
    try simp only [Act.put, List.setIfInBounds_toArray, List.set_cons_zero, List.set_cons_succ]
    refine wpAnyX_take (i := 11) (v := ?_) rfl (by kernel_rfl) (by kernel_rfl) (by kernel_rfl) (by kernel_rfl) (fun _ _ _ h => h) (Or.inl ⟨by rfl, ?_⟩) (by assumption) ?_
    rotate_left 1
    · intro w hSw; (try dsimp only at hSw); go_split_ands; (first | (go_simp; done) | (go_simp; with_reducible rfl))
    try simp only [Act.put, List.setIfInBounds_toArray, List.set_cons_zero, List.set_cons_succ]
    refine wpAnyX_take (i := 12) (v := ?_) rfl (by kernel_rfl) (by kernel_rfl) (by kernel_rfl) (by kernel_rfl) (fun _ _ _ h => h) (Or.inl ⟨by rfl, ?_⟩) (by assumption) ?_
    rotate_left 1
    · intro w hSw; (try dsimp only at hSw); go_split_ands; (first | (go_simp; done) | (go_simp; with_reducible rfl))
    try simp only [Act.put, List.setIfInBounds_toArray, List.set_cons_zero, List.set_cons_succ]
    refine wpAnyX_take (i := 13) (v := ?_) rfl (by kernel_rfl) (by kernel_rfl) (by kernel_rfl) (by kernel_rfl) (fun _ _ _ h => h) (Or.inl ⟨by rfl, ?_⟩) (by assumption) ?_
    rotate_left 1
    · intro w hSw; (try dsimp only at hSw); go_split_ands; (first | (go_simp; done) | (go_simp; with_reducible rfl))
    try simp only [Act.put, List.setIfInBounds_toArray, List.set_cons_zero, List.set_cons_succ]
    clear hS0
    refine wpAnyX_one (i := 14) (by kernel_rfl) rfl (fun K hK => ?_)
    go_simp
    refine hK.out _ _ (fun _ => ⟨alloc_cell cb8 _, alloc_frozen (a := ⟨bt, 8, none⟩) hbt fb8 _, alloc_cell ce0 _, alloc_cell ce4 _, alloc_cell ce5 _⟩) ?_
    clear hK K
    refine wpAnyX_one (i := 15) (by kernel_rfl) rfl (fun K hK => ?_)
    rw [show ∀ o, (w1.alloc o).drew = w1.drew.alloc o from fun _ => rfl]
    refine Kd.R_append_step kAcc base (w0 := w1) rfl (.tmp 22) (.tmp 32) 27 33 (.agg #[.int .i64 0, .int .i64 0, .int .i64 0, .int .i64 0, .bool false, .bool false]) 40 rfl Try.underlying27 info33 rfl (by decide) (by omega) (.slice A t.f8.length c) t.f8 ⟨i, e.f0, e.f4, e.f5, false, false⟩ _ (fun _ => True) (fun _ => False) rfl rfl (k33_mkM _ _ _ ⟨i, e.f0, e.f4, e.f5, false, false⟩) (fun _ h => h.elim) (fun _ _ => trivial) HR.out (below_drew (Below.refl _ _)) (Nat.le_trans HBs.out lw1) (by have := HL.out; omega) ?_
    intro v1 w2 hR hB hg0 hat0
    have hg := Veil.mk hg0
    have hat := Veil.mk hat0
    have hRR := Veil.mk hR
    have cz8 : w2.cell? ⟨bt, 8, none⟩ = some (.slice A t.f8.length c) := (hg.out.cell_far ⟨bt, 8, none⟩ hbt HN1.out).trans cb8
    have fz8 : w2.frozen? ⟨bt, 8, none⟩ = false := (hg.out.frozen_far ⟨bt, 8, none⟩ hbt HN1.out).trans fb8
    have hBt : Veil (Blk w2 bt 29 (trC t (.slice A t.f8.length c))) := ⟨(hg.out.block bt hbt HN1.out).trans (HT.out.blk.below HW.out.drew hlt)⟩
    have HS2 := Veil.mk (And.intro cz8 (And.intro fz8 (And.intro ((hg.out.cell_far ⟨w.heap.size, 0, none⟩ hbe HN2.out).trans ce0) (And.intro ((hg.out.cell_far ⟨w.heap.size, 4, none⟩ hbe HN2.out).trans ce4) ((hg.out.cell_far ⟨w.heap.size, 5, none⟩ hbe HN2.out).trans ce5)))))
    refine hK.out _ _ (fun _ => HS2.out) ?_
    clear hK K
    obtain ⟨A1, c1, rfl, hc1, hC1⟩ := Kd.R_reads hR
    clear hg0 hat0 hR hB hc1 hC1 cb8 fb8 fb8' ce0 ce4 ce5 c8
    try simp only [Act.put, List.setIfInBounds_toArray, List.set_cons_zero, List.set_cons_succ]
    refine wpAnyX_one (i := 16) (by kernel_rfl) rfl (fun K hK => ?_)
    go_simp
    refine hK.out _ _ (fun _ => HS2.out) ?_
    clear hK K
    refine wpAnyX_one (i := 17) (by kernel_rfl) rfl (fun K hK => ?_)
    go_simp
    refine hK.out _ _ (fun _ => HS2.out) ?_
    clear hK K
    refine wpAnyX_one (i := 18) (by kernel_rfl) rfl (fun K hK => ?_)
    go_simp
    refine hK.out _ _ (fun h => by cases h) ?_
    clear hK K
    refine wpAnyX_done (by kernel_rfl) ?_ _
    go_wp2
    go_end0
    exact ⟨rfl, access_close HT.out HW.out hg.out hBt.out HEQ.out hRR.out hat.out⟩
end Go.Proofs.Ytjmnbbflahacoaa.Hist
/- hist, fourth part: release. No condition. -/
namespace Go.Proofs.Ytjmnbbflahacoaa.Hist
open Go.RowKit Go.Proofs.Ytjmnbbflahacoaa.Mem Go.Proofs.Ytjmnbbflahacoaa.PHistTells Go.Proofs.YtjmnbbflahacoaaW.PrintWords
set_option linter.unusedVariables false
set_option linter.unusedSimpArgs false

/-- One cell of an owned row's element turns. -/
theorem own_field {α : Type} {R R' : α → List Value → Prop} {e : TypeId} {size : Nat} {W : World} {base g n cap : Nat} {xs : List α} (h : OwnRow R e size W base (.slice (some ⟨g, 0, none⟩) n cap) xs) {k : Nat} (hk : k < xs.length) {o : Nat} (ho : o < size) (u : Value) (x' : α)
    (hx : ∀ c, R xs[k] c → R' x' (c.set o u)) (hR : ∀ p c, R p c → R' p c) : OwnRow R' e size (W.setCell ⟨g, k * size + o, none⟩ u) base (.slice (some ⟨g, 0, none⟩) n cap) (xs.set k x') := by
  obtain ⟨inner, ⟨h1, h2⟩, hl, hr⟩ := h
  rcases h2 with ⟨hv, _⟩ | ⟨g', cap', cur, hv, hb, hh, hn, hm, hs, ht⟩
  · cases hv
  injection hv with ha hn' hc'
  injection ha with ha
  injection ha with ha
  subst ha hc'
  have hlt : k * size + o < inner.length := by
    rw [hl]
    have : k * size + size ≤ xs.length * size := by rw [← Nat.succ_mul]; exact Nat.mul_le_mul_right _ hk
    omega
  refine ⟨inner.set (k * size + o) u, ⟨by simpa using h1, .inr ⟨g, cap, cur.setIfInBounds (k * size + o) u, by rw [hn']; simp, hb, ?_, ?_, hm, by simpa using hs, ?_⟩⟩, ?_, ?_⟩
  · simp only [World.setCell, Array.getElem?_modify, hh, if_true, Option.map_some]
    simp
  · simpa using hn
  · rw [Array.toList_setIfInBounds, List.take_set, List.length_set]
    rw [← ht]
  · simp [hl]
  · intro j p hj
    rw [List.getElem?_set] at hj
    by_cases hkj : k = j
    · subst hkj
      rw [if_pos rfl, if_pos hk] at hj
      injection hj with hj
      subst hj
      have h3 := hx _ (hr k xs[k] (List.getElem?_eq_getElem hk))
      rw [List.drop_set, if_neg (by omega), List.take_set, show k * size + o - k * size = o by omega]
      exact h3
    · rw [if_neg hkj] at hj
      have h3 := hR _ _ (hr j p hj)
      have hjl : j < xs.length := (List.getElem?_eq_some_iff.1 hj).1
      rw [List.drop_set]
      rcases Nat.lt_or_ge k j with hlt' | hge
      · have : k * size + size ≤ j * size := by rw [← Nat.succ_mul]; exact Nat.mul_le_mul_right _ hlt'
        rw [if_pos (by omega)]
        exact h3
      · have : j * size + size ≤ k * size := by rw [← Nat.succ_mul]; exact Nat.mul_le_mul_right _ (by omega)
        rw [if_neg (by omega), List.take_set, List.set_eq_of_length_le (by simp; omega)]
        exact h3

def relAcc (obj : Int) (a : Acc) : Acc := if a.f1 == 2 && a.f2 == obj then { a with f5 := true } else a
def relTo (obj : Int) (l : List Acc) (k : Nat) : List Acc := (l.take k).map (relAcc obj) ++ l.drop k
theorem relTo_length (obj : Int) (l : List Acc) (k : Nat) : (relTo obj l k).length = l.length := by
  unfold relTo; simp; omega
theorem relTo_at (obj : Int) (l : List Acc) (k : Nat) (h : k < l.length) : (relTo obj l k)[k]? = some l[k] := by
  unfold relTo
  have hl : ((l.take k).map (relAcc obj)).length = k := by simp; omega
  rw [List.getElem?_append_right (by omega), hl]
  simp
theorem relTo_next (obj : Int) (l : List Acc) (k : Nat) (h : k < l.length) : relTo obj l (k + 1) = (relTo obj l k).set k (relAcc obj l[k]) := by
  unfold relTo
  have hl : ((l.take k).map (relAcc obj)).length = k := by simp; omega
  rw [List.take_succ_eq_append_getElem h, List.map_append, List.set_append_right _ _ (by omega), hl, Nat.sub_self, List.drop_eq_getElem_cons h]
  simp only [List.map_cons, List.map_nil, List.append_assoc, List.cons_append, List.nil_append, List.set_cons_zero]
theorem relAcc_no1 {obj : Int} {x : Acc} (h : (x.f1 == 2) = false) : relAcc obj x = x := by unfold relAcc; simp [h]
theorem relAcc_no2 {obj : Int} {x : Acc} (h : (x.f2 == obj) = false) : relAcc obj x = x := by unfold relAcc; simp [h]
theorem relAcc_yes {obj : Int} {x : Acc} (h1 : (x.f1 == 2) = true) (h : (x.f2 == obj) = true) : relAcc obj x = { x with f5 := true } := by unfold relAcc; simp [h, h1]
theorem relTo_same {obj : Int} {l : List Acc} {k : Nat} (h : k < l.length) {x : Acc} (hx : l[k] = x) (hr : relAcc obj x = x) : relTo obj l (k + 1) = relTo obj l k := by
  rw [relTo_next obj l k h, hx, hr]
  have h1 := relTo_at obj l k h
  rw [hx] at h1
  obtain ⟨h2, h3⟩ := List.getElem?_eq_some_iff.1 h1
  rw [← h3]; exact List.set_getElem_self h2
theorem relTo_all (obj : Int) (l : List Acc) : relTo obj l l.length = l.map (relAcc obj) := by unfold relTo; simp

/-- One access is marked. -/
theorem release_step {w : World} {base bt g n c : Nat} {t : Tr} {L : List Acc} (h : TryAt w base bt (withAcc t L) (.slice (some ⟨g, 0, none⟩) n c)) {k : Nat} {x : Acc} (hx : L[k]? = some x) :
    TryAt (w.setCell ⟨g, k * 6 + 5, none⟩ (.bool true)) base bt (withAcc t (L.set k { x with f5 := true })) (.slice (some ⟨g, 0, none⟩) n c) := by
  obtain ⟨hk, he⟩ := List.getElem?_eq_some_iff.1 hx
  have hne : bt ≠ g := fun e => not_row h (by rw [e]; rfl)
  refine ⟨h.blk.far hne _, h.low, fun _ _ => trivial, own_field h.acc.2 hk (by decide : 5 < 6) _ _ (fun cs hc => ?_) (fun p cs hc => ?_)⟩
  · have hc' : kAcc.M w base (fun k => (fun _ => True) k ∧ some k ≠ (Value.slice (some ⟨g, 0, none⟩) n c).ownBlock) x cs := he ▸ hc
    obtain rfl := k33_openM hc'
    exact k33_mkM _ _ _ { x with f5 := true }
  · obtain rfl := k33_openM hc
    exact k33_mkM _ _ _ p

/-- The element at k, its cells. -/
theorem acc_cells {w : World} {base bt g n c : Nat} {t : Tr} (h : TryAt w base bt t (.slice (some ⟨g, 0, none⟩) n c)) (k : Nat) (x : Acc) (hx : t.f8[k]? = some x) :
    w.cell? ⟨g, k * 6 + 1, none⟩ = some (.int .i64 x.f1) ∧ w.cell? ⟨g, k * 6 + 2, none⟩ = some (.int .i64 x.f2) ∧ w.cell? ⟨g, k * 6 + 5, none⟩ = some (.bool x.f5) ∧ w.frozen? ⟨g, k * 6 + 5, none⟩ = false := by
  have hk := (List.getElem?_eq_some_iff.1 hx).1
  have hR := h.acc
  have hn := (Kd.R_reads' hR).1
  obtain ⟨cs, hcl, hM, hcc, hfr⟩ := Kd.R_elem hR z33 (k : Int) (by omega) (by omega)
  simp only [Int.toNat_natCast, List.getD_eq_getElem?_getD, hx, Option.getD_some] at hM hcc hfr
  obtain rfl := k33_openM hM
  exact ⟨hcc 1 _ rfl, hcc 2 _ rfl, hcc 5 _ rfl, hfr 5⟩

set_option maxHeartbeats 1600000 in
set_option maxRecDepth 100000 in
theorem release_any (w : World) (base bt : Nat) (t : Tr) (row : Value) (obj : Int) (hT : TryAt w base bt t row) (hl : t.f8.length ≤ 1000000000) :
    Calls Try.prog 93 #[.pointer (some ⟨bt, 0, none⟩), .int .i64 obj] w
      fun ed w' => ed = .returned (.tuple #[]) ∧ TryAt w' base bt (withAcc t (t.f8.map (relAcc obj))) row ∧ Upd (fun k => row.ownBlock = some k) w w' := by
  obtain ⟨A, c, rfl, hc, hC⟩ := Kd.R_reads hT.acc
  have c8 := hT.blk.cell 8 _ rfl
  have HT := Veil.mk hT
  have HL := Veil.mk hl
  clear hT hC hc hl
  go_enter Try.func93, Try.ntmps93
  go_wp2
  clear c8
  go_loopw [4, 5, 11] (fun v4 v5 v11 wr => ∃ k : Nat, k ≤ t.f8.length ∧ v11 = .int .i64 k ∧ Veil (TryAt wr base bt (withAcc t (relTo obj t.f8 k)) (.slice A t.f8.length c)) ∧ Veil (Upd (fun k => (Value.slice A t.f8.length c).ownBlock = some k) w wr)) (fun _ _ v11 _ => t.f8.length - (intOf v11).toNat)
  case atStart => exact ⟨0, Nat.zero_le _, rfl, ⟨by simpa [relTo, withAcc] using HT.out⟩, ⟨Upd.refl _ _⟩⟩
  case round =>
    obtain ⟨k, hk, rfl, HR, HU⟩ := hrel
    have hm := HL.out
    by_cases hlt : k < t.f8.length
    · obtain ⟨g, rfl⟩ : ∃ g, A = some ⟨g, 0, none⟩ := by
        obtain ⟨g, cap, he, _⟩ := Kd.R_form HR.out.acc (by show 0 < (relTo obj t.f8 k).length; rw [relTo_length]; omega)
        injection he with he _ _
        exact ⟨g, he⟩
      obtain ⟨h1, h2, h5, f5⟩ := acc_cells HR.out k t.f8[k] (relTo_at obj t.f8 k hlt)
      have c8 := HR.out.blk.cell 8 _ rfl
      have hlti : decide ((k : Int) < (t.f8.length : Int)) = true := decide_eq_true (by omega)
      obtain ⟨x, hx⟩ : ∃ x, t.f8[k] = x := ⟨_, rfl⟩
      have HXX := Veil.mk hx
      rw [hx] at h1 h2 h5
      clear hx
      by_cases hp : x.f1 = 2
      · have e1 : (x.f1 == 2) = true := beq_iff_eq.2 hp
        clear hp
        by_cases hq : x.f2 = obj
        · have e2 : (x.f2 == obj) = true := beq_iff_eq.2 hq
          clear hq
          go_wp2
          go_roundw
          case rel => exact ⟨k + 1, by omega, by go_num, ⟨by rw [relTo_next obj t.f8 k hlt, HXX.out, relAcc_yes e1 e2]; exact release_step HR.out (HXX.out ▸ relTo_at obj t.f8 k hlt)⟩, ⟨HU.out.setCell (p := ⟨g, k * 6 + 5, none⟩) (fun _ => rfl) _⟩⟩
          case measure => simp [intOf]; omega
        · have e2 : (x.f2 == obj) = false := beq_eq_false_iff_ne.2 hq
          clear hq
          go_wp2
          go_roundw
          case rel => exact ⟨k + 1, by omega, by go_num, ⟨by rw [relTo_same hlt HXX.out (relAcc_no2 e2)]; exact HR.out⟩, HU⟩
          case measure => simp [intOf]; omega
      · have e1 : (x.f1 == 2) = false := beq_eq_false_iff_ne.2 hp
        clear hp
        go_wp2
        go_roundw
        case rel => exact ⟨k + 1, by omega, by go_num, ⟨by rw [relTo_same hlt HXX.out (relAcc_no1 e1)]; exact HR.out⟩, HU⟩
        case measure => simp [intOf]; omega
    · have hkl : k = t.f8.length := by omega
      have hlti : decide ((k : Int) < (t.f8.length : Int)) = false := decide_eq_false (by omega)
      have HF : Veil (TryAt wr base bt (withAcc t (t.f8.map (relAcc obj))) (.slice A t.f8.length c)) := ⟨by have := HR.out; rwa [hkl, relTo_all] at this⟩
      clear hkl
      go_wp2
      go_end0
      exact ⟨rfl, HF.out, HU.out⟩
end Go.Proofs.Ytjmnbbflahacoaa.Hist
/- hist, fifth part: the book: as a list of tries (the plain law of an event), and as it lies in memory. No condition. -/
namespace Go.Proofs.Ytjmnbbflahacoaa.Hist
open Go.RowKit Go.Proofs.Ytjmnbbflahacoaa.Mem Go.Proofs.Ytjmnbbflahacoaa.PHistTells Go.Proofs.YtjmnbbflahacoaaW.PrintWords
set_option linter.unusedVariables false
set_option linter.unusedSimpArgs false

theorem snoc_ind {α : Type} {P : List α → Prop} (h0 : P []) (h1 : ∀ l x, P l → P (l ++ [x])) (l : List α) : P l := by
  have key : ∀ n, ∀ l : List α, l.length = n → P l := by
    intro n
    induction n with
    | zero => intro l hl; rw [List.eq_nil_of_length_eq_zero hl]; exact h0
    | succ n ih =>
      intro l hl
      have hne : l ≠ [] := by rintro rfl; simp at hl
      rw [← List.dropLast_concat_getLast hne]
      exact h1 _ _ (ih _ (by simp [hl]))
  exact key _ l rfl
/-- The last place at which a list of threads has th. -/
def lastIx (th : Int) (l : List Int) : Option Nat := (l.foldl (fun (p : Nat × Option Nat) t => (p.1 + 1, if t == th then some p.1 else p.2)) (0, none)).2
theorem lastIx_fst (th : Int) (l : List Int) : ∀ p : Nat × Option Nat, (l.foldl (fun (p : Nat × Option Nat) t => (p.1 + 1, if t == th then some p.1 else p.2)) p).1 = p.1 + l.length := by
  induction l with
  | nil => intro p; rfl
  | cons x l ih => intro p; rw [List.foldl_cons, ih]; simp; omega
theorem lastIx_snoc (th : Int) (l : List Int) (t : Int) : lastIx th (l ++ [t]) = if t == th then some l.length else lastIx th l := by
  unfold lastIx
  rw [List.foldl_append]
  simp only [List.foldl_cons, List.foldl_nil]
  rw [lastIx_fst]
  simp
theorem lastIx_spec (th : Int) (l : List Int) (k : Nat) (h : lastIx th l = some k) : l[k]? = some th ∧ ∀ j, k < j → l[j]? ≠ some th := by
  revert k
  refine snoc_ind (P := fun l => ∀ k, lastIx th l = some k → l[k]? = some th ∧ ∀ j, k < j → l[j]? ≠ some th) ?_ ?_ l
  · intro k h; cases h
  · intro l t ih k h
    rw [lastIx_snoc] at h
    by_cases e : t = th
    · rw [if_pos (by simp [e])] at h
      injection h with h
      subst h
      exact ⟨by simp [e], fun j hj hh => by
        have := (List.getElem?_eq_some_iff.1 hh).1
        simp at this
        omega⟩
    · rw [if_neg (by simp [e])] at h
      obtain ⟨h1, h2⟩ := ih k h
      have hk := (List.getElem?_eq_some_iff.1 h1).1
      refine ⟨by rw [List.getElem?_append_left hk]; exact h1, fun j hj hh => ?_⟩
      rcases Nat.lt_or_ge j l.length with hlt | hge
      · rw [List.getElem?_append_left hlt] at hh
        exact h2 j hj hh
      · rw [List.getElem?_append_right hge] at hh
        have := (List.getElem?_eq_some_iff.1 hh).1
        simp at this
        have : j - l.length = 0 := by omega
        rw [this] at hh
        simp at hh
        exact e hh
/-- A thread's last try, of a list of tries. -/
def lastOf (th : Int) (ts : List Tr) : Option Nat := lastIx th (ts.map (·.f0))
theorem lastOf_lt {th : Int} {ts : List Tr} {k : Nat} (h : lastOf th ts = some k) : k < ts.length := by
  have := (List.getElem?_eq_some_iff.1 (lastIx_spec th _ k h).1).1
  simpa using this
/-- How many tries a transaction has. -/
def countOf (th tx : Int) (ts : List Tr) : Nat := ts.countP (fun t => t.f0 == th && t.f1 == tx)
def isOpen (ts : List Tr) (th : Int) : Bool := match lastOf th ts with
  | some k => match ts[k]? with
    | some t => decide (t.f5 < 0)
    | none => false
  | none => false
def newTr (i : Int) (e : Ev) : Tr := ⟨e.f1, e.f2, e.f3, e.f5, i, -1, 0, false, []⟩
/-- A right event of a try that goes on. -/
def turnTr (t : Tr) (i : Int) (e : Ev) : Option Tr :=
  if e.f0 == 2 || e.f0 == 3 then some (withAcc t (t.f8 ++ [accOf t i e]))
  else if e.f0 == 4 then some (withAcc t (t.f8.map (relAcc e.f4)))
  else if e.f0 == 5 then some { t with f5 := i, f7 := true }
  else if e.f0 == 6 then some { t with f5 := i, f6 := e.f6 }
  else none
/-- An event: none: it isn't right. -/
def stepM (ts : List Tr) (i : Int) (e : Ev) : Option (List Tr) :=
  if e.f0 == 1 then (if isOpen ts e.f1 || !(e.f3 == (countOf e.f1 e.f2 ts : Int) + 1) then none else some (ts ++ [newTr i e]))
  else if e.f0 == 7 then (if isOpen ts e.f1 then none else some ts)
  else match lastOf e.f1 ts with
    | some k => match ts[k]? with
      | some t => if decide (t.f5 < 0) && t.f1 == e.f2 && t.f2 == e.f3 then (turnTr t i e).map (ts.set k) else none
      | none => none
    | none => none

/-- An event's fields are int64s. -/
structure EvOk (e : Ev) : Prop where
  w1 : (Lit.int .i64 e.f1).wf = true
  w2 : (Lit.int .i64 e.f2).wf = true

set_option maxRecDepth 100000 in
theorem keyOf_key {a b : Int} (wa : (Lit.int .i64 a).wf = true) (wb : (Lit.int .i64 b).wf = true) :
    keyOf Try.prog 173 (.agg #[.int .i64 a, .int .i64 b]) = some (.string (keyBytes [.int .i64 a, .int .i64 b])) := by
  have hkt : Try.prog.keyType 173 = true := by kernel_rfl
  have hc : Try.prog.cellsOf 173 = 2 := by kernel_rfl
  have hc3 : Try.prog.cellsOf 3 = 1 := by kernel_rfl
  obtain ⟨m, hm⟩ : ∃ m, Try.prog.types.size = m + 1 := ⟨Try.prog.types.size - 1, by kernel_rfl⟩
  unfold keyOf
  simp only [Try.underlying173]
  rw [if_pos (by simp [hkt, Value.formed, Try.underlying173, hc]), hm]
  unfold Program.keyLits
  simp only [Try.underlying173, Value.cells]
  rw [if_pos (by rw [hc]; exact ⟨rfl, by simp⟩), List.mapM_cons, List.mapM_cons, List.mapM_nil]
  simp [hc3, Program.keyLits, Try.underlying3, wa, wb]
theorem keyOf_thread {a : Int} (wa : (Lit.int .i64 a).wf = true) : keyOf Try.prog 3 (.int .i64 a) = some (.int .i64 a) := Go.Maps.keyOf_int_mk Try.underlying3 wa
set_option maxRecDepth 100000 in
theorem keyed_key : Go.Maps.Keyed Try.prog 173 := Go.Maps.Keyed.of_law (deep_law_laid (by kernel_rfl) (m := 1000) (by decide) (Nat.le_of_ble_eq_true (by kernel_rfl)) (by kernel_rfl) (by rw [Try.underlying173]))
theorem keyed_thread : Go.Maps.Keyed Try.prog 3 := Go.Maps.int_keyed Try.underlying3

/-- Look-ups of the book's maps. -/
theorem last_look {w : World} {ml : Nat} {m : Value → Option Value} (h : MapAt Try.prog 3 w ml m) {a : Int} (wa : (Lit.int .i64 a).wf = true) :
    (Instr.lookup 120 (.map (some ml)) (.int .i64 a) false).run Try.prog w = .ok ((m (.int .i64 a)).getD (.pointer none)) w :=
  run_lookup keyed_thread Try.underlying120 (by intro u; go_simp) (keyOf_thread wa) h
theorem count_look {w : World} {mc : Nat} {m : Value → Option Value} (h : MapAt Try.prog 173 w mc m) {a b : Int} (wa : (Lit.int .i64 a).wf = true) (wb : (Lit.int .i64 b).wf = true) :
    (Instr.lookup 121 (.map (some mc)) (.agg #[.int .i64 a, .int .i64 b]) false).run Try.prog w = .ok ((m (.agg #[.int .i64 a, .int .i64 b])).getD (.int .i64 0)) w :=
  run_lookup keyed_key Try.underlying121 (by intro u; go_simp) (keyOf_key wa wb) h

def kPtr : Kd Nat := Kd.scalar (fun b => .pointer (some ⟨b, 0, none⟩)) (fun _ => rfl)

def key1 : Value → Option Int
  | .int .i64 a => some a
  | _ => none
def key2L : List Value → Option (Int × Int)
  | [.int .i64 a, .int .i64 b] => some (a, b)
  | _ => none
def key2 : Value → Option (Int × Int)
  | .agg cells => key2L cells.toList
  | _ => none
theorem key1_of {v : Value} {a : Int} (h : key1 v = some a) : v = .int .i64 a := by
  unfold key1 at h
  split at h
  · injection h with h; subst h; rfl
  · cases h
theorem key2_of {v : Value} {a b : Int} (h : key2 v = some (a, b)) : v = .agg #[.int .i64 a, .int .i64 b] := by
  unfold key2 at h
  split at h
  · rename_i cells
    unfold key2L at h
    split at h
    · rename_i x y he
      injection h with h
      injection h with h1 h2
      subst h1 h2
      rw [← Array.toArray_toList (xs := cells), he]
    · cases h
  · cases h
/-- What last says: the try's block. -/
def lastM (bs : List Nat) (ts : List Tr) (v : Value) : Option Value := (key1 v).bind fun th => ((lastOf th ts).bind (bs[·]?)).map (fun b => .pointer (some ⟨b, 0, none⟩))
/-- What count says. -/
def countM (ts : List Tr) (v : Value) : Option Value := (key2 v).bind fun p => if countOf p.1 p.2 ts = 0 then none else some (.int .i64 (countOf p.1 p.2 ts))
theorem lastM_eq (bs : List Nat) (ts : List Tr) (th : Int) : lastM bs ts (.int .i64 th) = ((lastOf th ts).bind (bs[·]?)).map (fun b => .pointer (some ⟨b, 0, none⟩)) := rfl
theorem countM_eq (ts : List Tr) (th tx : Int) : countM ts (.agg #[.int .i64 th, .int .i64 tx]) = if countOf th tx ts = 0 then none else some (.int .i64 (countOf th tx ts)) := rfl

/-- A book that lies at bb: its tries' blocks bs, their accesses' rows ro, its own row rv, its maps ml and mc. -/
structure BookAt (w : World) (base bb : Nat) (bs : List Nat) (ro : Nat → Value) (ts : List Tr) (rv : Value) (ml mc : Nat) : Prop where
  blk : Blk w bb 124 [rv, .map (some ml), .map (some mc)]
  low : base ≤ bb
  row : kPtr.R 85 w base (fun _ => True) rv bs
  len : bs.length = ts.length
  tries : ∀ (k : Nat) (b : Nat) (t : Tr), bs[k]? = some b → ts[k]? = some t → TryAt w base b t (ro b)
  nodup : bs.Nodup
  apart : ∀ b b', b ∈ bs → b' ∈ bs → b ≠ b' → ∀ k, (ro b).ownBlock = some k → (ro b').ownBlock ≠ some k
  lastAt : MapAt Try.prog 3 w ml (lastM bs ts)
  countAt : MapAt Try.prog 173 w mc (countM ts)
  lowl : base ≤ ml
  lowc : base ≤ mc
  maps : ml ≠ mc
end Go.Proofs.Ytjmnbbflahacoaa.Hist
