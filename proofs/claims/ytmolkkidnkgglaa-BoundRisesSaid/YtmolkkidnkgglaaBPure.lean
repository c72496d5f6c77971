/- The plain laws behind BoundTells and BoundRises: what the bounds compute, in numbers and lists. No condition. -/
import Derived.Test.YtmolkkidnkgglaaPBoundTellsx3
namespace Go.Proofs.Ytmolkkidnkgglaa.BPure
open Go.RowKit Go.Proofs.Ytmolkkidnkgglaa.PBoundTells Go.Proofs.YtmolkkidnkgglaaW.PrintWords Go.Proofs.YtmolkkidnkgglaaW.PrintLast Go.Proofs.YtmolkkidnkgglaaW.PrintMore

theorem wrap_small {z : Int} (h0 : -9223372036854775808 ≤ z) (h1 : z ≤ 9223372036854775807) : wrap64 z = z := by
  unfold wrap64; omega

def heldN (a m : Int) : Int := if a < 0 then 0 else if m < a then m else a

theorem held_eq (a m : Int) (hm : 0 ≤ m) : bound_held.f a m = some (heldN a m) := by
  unfold bound_held.f heldN mx mn
  congr 1
  (repeat' split) <;> omega

theorem rheld_eq (a m : Int) : quarrelref23_held.f a m = some (heldN a m) := by
  unfold quarrelref23_held.f heldN
  (repeat' split) <;> first | rfl | omega

theorem held_rng (a m : Int) (hm : 0 ≤ m) : 0 ≤ heldN a m ∧ heldN a m ≤ m := by
  unfold heldN; split <;> (try split) <;> omega

theorem held_mono (a b m : Int) (hm : 0 ≤ m) (h : a ≤ b) : heldN a m ≤ heldN b m := by
  unfold heldN; (repeat' split) <;> omega

theorem held_top (a m : Int) (hm : 0 ≤ m) : heldN a m ≤ heldN m m := by
  unfold heldN; (repeat' split) <;> omega

theorem wr1 : wrap64 1 = 1 := wrap_small (by omega) (by omega)
theorem wr2 : wrap64 2 = 2 := wrap_small (by omega) (by omega)
theorem wr3 : wrap64 3 = 3 := wrap_small (by omega) (by omega)
theorem wr4 : wrap64 4 = 4 := wrap_small (by omega) (by omega)
theorem wr5 : wrap64 5 = 5 := wrap_small (by omega) (by omega)

theorem prod2 (k : Nat) (a b : Int) : bound_product.f (k + 6) [a, b] = some (wrap64 (wrap64 a * b)) := by
  simp [bound_product.f, bound_product.l0, rd, wr1, wr2]

theorem prod5 (k : Nat) (a b c d e : Int) : bound_product.f (k + 6) [a, b, c, d, e] = some (wrap64 (wrap64 (wrap64 (wrap64 (wrap64 a * b) * c) * d) * e)) := by
  simp [bound_product.f, bound_product.l0, rd, wr1, wr2, wr3, wr4, wr5]

theorem mul_rng {a b A B : Int} (ha : 0 ≤ a) (hA : a ≤ A) (hb : 0 ≤ b) (hB : b ≤ B) : 0 ≤ a * b ∧ a * b ≤ A * B :=
  ⟨Int.mul_nonneg ha hb, Int.mul_le_mul hA hB hb (Int.le_trans ha hA)⟩

def soloN (k w : Int) : Int := 100 * (heldN k 8 * heldN k 8 + heldN k 8 * heldN w 64 + 1)
def needN (k : Int) : Int := 6 * (heldN k 8 + 1)
def wholeN (n k f : Int) : Int := 64 * heldN f 64 * (heldN k 8 + 1) * (heldN k 8 + 1) * (heldN n 6 + 1)

theorem solo_eq (k : Nat) (a w : Int) : bound_Solo.f (k + 6) a w = some (soloN a w) := by
  have h1 := held_rng a 8 (by omega)
  have h2 := held_rng w 64 (by omega)
  unfold bound_Solo.f soloN
  rw [held_eq _ _ (by omega), held_eq _ _ (by omega)]
  generalize heldN a 8 = x at *
  generalize heldN w 64 = y at *
  have m1 := mul_rng h1.1 h1.2 h1.1 h1.2
  have m2 := mul_rng h1.1 h1.2 h2.1 h2.2
  simp only [Option.bind_some, prod2]
  rw [wrap_small (z := x) (by omega) (by omega), wrap_small (z := x * x) (by omega) (by omega), wrap_small (z := x * y) (by omega) (by omega)]
  generalize x * x = u at *
  generalize x * y = v at *
  rw [wrap_small (z := u + v) (by omega) (by omega), wrap_small (z := u + v + 1) (by omega) (by omega), wrap_small (z := 100) (by omega) (by omega), wrap_small (by omega) (by omega)]

theorem need_eq (k : Nat) (a : Int) : bound_Need.f (k + 6) a = some (needN a) := by
  have h1 := held_rng a 8 (by omega)
  unfold bound_Need.f needN
  rw [held_eq _ _ (by omega)]
  generalize heldN a 8 = x at *
  simp only [Option.bind_some, prod2]
  rw [wrap_small (z := x + 1) (by omega) (by omega), wrap_small (z := 6) (by omega) (by omega), wrap_small (by omega) (by omega)]

theorem whole_eq (k : Nat) (n a f : Int) : bound_Whole.f (k + 6) n a f = some (wholeN n a f) := by
  have h1 := held_rng n 6 (by omega)
  have h2 := held_rng a 8 (by omega)
  have h3 := held_rng f 64 (by omega)
  unfold bound_Whole.f wholeN
  rw [held_eq _ _ (by omega), held_eq _ _ (by omega), held_eq _ _ (by omega)]
  generalize heldN n 6 = x at *
  generalize heldN a 8 = y at *
  generalize heldN f 64 = z at *
  simp only [Option.bind_some, prod5]
  rw [wrap_small (z := x + 1) (by omega) (by omega), wrap_small (z := y + 1) (by omega) (by omega), wrap_small (z := 64) (by omega) (by omega), wrap_small (z := 64 * z) (by omega) (by omega)]
  have m1 := mul_rng (a := 64 * z) (A := 4096) (b := y + 1) (B := 9) (by omega) (by omega) (by omega) (by omega)
  rw [wrap_small (z := 64 * z * (y + 1)) (by omega) (by omega)]
  have m2 := mul_rng (a := 64 * z * (y + 1)) (A := 4096 * 9) (b := y + 1) (B := 9) m1.1 m1.2 (by omega) (by omega)
  rw [wrap_small (z := 64 * z * (y + 1) * (y + 1)) (by omega) (by omega)]
  have m3 := mul_rng (a := 64 * z * (y + 1) * (y + 1)) (A := 4096 * 9 * 9) (b := x + 1) (B := 7) m2.1 m2.2 (by omega) (by omega)
  rw [wrap_small (z := 64 * z * (y + 1) * (y + 1) * (x + 1)) (by omega) (by omega)]

theorem rsolo_eq (a w : Int) : quarrelref23_Solo.f a w = some (soloN a w) := by
  have h1 := held_rng a 8 (by omega)
  have h2 := held_rng w 64 (by omega)
  unfold quarrelref23_Solo.f soloN
  rw [rheld_eq, rheld_eq]
  generalize heldN a 8 = x at *
  generalize heldN w 64 = y at *
  have m1 := mul_rng h1.1 h1.2 h1.1 h1.2
  have m2 := mul_rng h1.1 h1.2 h2.1 h2.2
  simp only [Option.bind_some]
  rw [wrap_small (z := x * x) (by omega) (by omega), wrap_small (z := x * y) (by omega) (by omega)]
  generalize x * x = u at *
  generalize x * y = v at *
  rw [wrap_small (z := u + v) (by omega) (by omega), wrap_small (z := u + v + 1) (by omega) (by omega), wrap_small (by omega) (by omega)]

theorem rneed_eq (a : Int) : quarrelref23_Need.f a = some (needN a) := by
  have h1 := held_rng a 8 (by omega)
  unfold quarrelref23_Need.f needN
  rw [rheld_eq]
  generalize heldN a 8 = x at *
  simp only [Option.bind_some]
  rw [wrap_small (z := 6 * x) (by omega) (by omega), wrap_small (by omega) (by omega)]
  congr 1; omega

theorem rwhole_eq (n a f : Int) : quarrelref23_Whole.f n a f = some (wholeN n a f) := by
  have h1 := held_rng n 6 (by omega)
  have h2 := held_rng a 8 (by omega)
  have h3 := held_rng f 64 (by omega)
  unfold quarrelref23_Whole.f wholeN
  rw [rheld_eq, rheld_eq, rheld_eq]
  generalize heldN n 6 = x at *
  generalize heldN a 8 = y at *
  generalize heldN f 64 = z at *
  simp only [Option.bind_some]
  rw [wrap_small (z := x + 1) (by omega) (by omega), wrap_small (z := y + 1) (by omega) (by omega), wrap_small (z := 64 * z) (by omega) (by omega)]
  have m1 := mul_rng (a := 64 * z) (A := 4096) (b := y + 1) (B := 9) (by omega) (by omega) (by omega) (by omega)
  rw [wrap_small (z := 64 * z * (y + 1)) (by omega) (by omega)]
  have m2 := mul_rng (a := 64 * z * (y + 1)) (A := 4096 * 9) (b := y + 1) (B := 9) m1.1 m1.2 (by omega) (by omega)
  rw [wrap_small (z := 64 * z * (y + 1) * (y + 1)) (by omega) (by omega)]
  have m3 := mul_rng (a := 64 * z * (y + 1) * (y + 1)) (A := 4096 * 9 * 9) (b := x + 1) (B := 7) m2.1 m2.2 (by omega) (by omega)
  rw [wrap_small (z := 64 * z * (y + 1) * (y + 1) * (x + 1)) (by omega) (by omega)]

theorem solo_mono {a b w v : Int} (h : a ≤ b) (g : w ≤ v) : soloN a w ≤ soloN b v := by
  have h1 := held_rng a 8 (by omega)
  have h2 := held_rng w 64 (by omega)
  have h5 := held_mono a b 8 (by omega) h
  have h6 := held_mono w v 64 (by omega) g
  unfold soloN
  have m1 := mul_rng h1.1 h5 h1.1 h5
  have m2 := mul_rng h1.1 h5 h2.1 h6
  omega

theorem need_mono {a b : Int} (h : a ≤ b) : needN a ≤ needN b := by
  have h5 := held_mono a b 8 (by omega) h
  unfold needN
  omega

theorem whole_mono {n m a b f g : Int} (h1 : n ≤ m) (h2 : a ≤ b) (h3 : f ≤ g) : wholeN n a f ≤ wholeN m b g := by
  have r1 := held_rng n 6 (by omega)
  have r2 := held_rng a 8 (by omega)
  have r3 := held_rng f 64 (by omega)
  have m1 := held_mono n m 6 (by omega) h1
  have m2 := held_mono a b 8 (by omega) h2
  have m3 := held_mono f g 64 (by omega) h3
  unfold wholeN
  have p1 := mul_rng (a := 64 * heldN f 64) (A := 64 * heldN g 64) (b := heldN a 8 + 1) (B := heldN b 8 + 1) (by omega) (by omega) (by omega) (by omega)
  have p2 := mul_rng p1.1 p1.2 (b := heldN a 8 + 1) (B := heldN b 8 + 1) (by omega) (by omega)
  exact (mul_rng p2.1 p2.2 (b := heldN n 6 + 1) (B := heldN m 6 + 1) (by omega) (by omega)).2

theorem whole_top (n k f : Int) : wholeN n k f ≤ wholeN 6 8 64 := by
  have r1 := held_rng n 6 (by omega)
  have r2 := held_rng k 8 (by omega)
  have r3 := held_rng f 64 (by omega)
  have m1 := held_top n 6 (by omega)
  have m2 := held_top k 8 (by omega)
  have m3 := held_top f 64 (by omega)
  unfold wholeN
  have p1 := mul_rng (a := 64 * heldN f 64) (A := 64 * heldN 64 64) (b := heldN k 8 + 1) (B := heldN 8 8 + 1) (by omega) (by omega) (by omega) (by omega)
  have p2 := mul_rng p1.1 p1.2 (b := heldN k 8 + 1) (B := heldN 8 8 + 1) (by omega) (by omega)
  exact (mul_rng p2.1 p2.2 (b := heldN n 6 + 1) (B := heldN 6 6 + 1) (by omega) (by omega)).2

theorem solo_top (k w : Int) : soloN k w ≤ soloN 8 64 := by
  have r1 := held_rng k 8 (by omega)
  have r2 := held_rng w 64 (by omega)
  have m1 := held_top k 8 (by omega)
  have m2 := held_top w 64 (by omega)
  unfold soloN
  have p1 := mul_rng r1.1 m1 r1.1 m1
  have p2 := mul_rng r1.1 m1 r2.1 m2
  omega

theorem solo_low (k w : Int) : 100 ≤ soloN k w := by
  have r1 := held_rng k 8 (by omega)
  have r2 := held_rng w 64 (by omega)
  unfold soloN
  have p1 := mul_rng r1.1 r1.2 r1.1 r1.2
  have p2 := mul_rng r1.1 r1.2 r2.1 r2.2
  omega

theorem need_low (k : Int) : 6 ≤ needN k := by
  have r1 := held_rng k 8 (by omega)
  unfold needN; omega

theorem need_top (k : Int) : needN k ≤ needN 8 := by
  have m1 := held_top k 8 (by omega)
  unfold needN; omega

theorem alive_eq (k : Nat) : quarrellaw23_alive.f (k + 6) = some true := by
  unfold quarrellaw23_alive.f
  rw [solo_eq, need_eq, whole_eq]
  rfl

theorem ev_now {α : Type} {g : Nat → Option α} {r : α} (m : Nat) (h : ∀ k, g (k + m) = some r) : Ev g r :=
  ⟨m, fun k hk => by have := h (k - m); rwa [Nat.sub_add_cancel hk] at this⟩

/-! the longest transaction -/
def innerM (m : Int) (t : List (List S59)) : Int := t.foldl (fun m ops => mx m (ops.length : Int)) m
def mostM (m : Int) (l : List (List (List S59))) : Int := l.foldl innerM m

theorem rd2 (t : List (List S59)) (i : Nat) (h : i < t.length) : rd_L2 t (i : Int) = t[i] := by
  unfold rd_L2; simp [List.getD, List.getElem?_eq_getElem h]
theorem rd3 (t : List (List (List S59))) (i : Nat) (h : i < t.length) : rd_L3 t (i : Int) = t[i] := by
  unfold rd_L3; simp [List.getD, List.getElem?_eq_getElem h]

theorem most_l1 (l : List (List (List S59))) (n p r : Int) (t : List (List S59)) (ht : t.length ≤ 1000) (d : Nat) : ∀ (i : Nat) (m : Int), t.length - i = d → i ≤ t.length →
    Ev (fun k => bound_Most.l0 k (innerM m (t.drop i)) l n (wrap64 (p + 1))) r → Ev (fun k => bound_Most.l1 k m l n p t (t.length : Int) (i : Int)) r := by
  induction d with
  | zero =>
    intro i m hd hi h
    have hil : i = t.length := by omega
    subst hil
    refine Ev.step (f := fun k => bound_Most.l0 k m l n (wrap64 (p + 1))) (fun k => ?_) (by simpa [innerM] using h)
    simp only [bound_Most.l1]; rw [if_neg (by omega)]
  | succ d ih =>
    intro i m hd hi h
    have hil : i < t.length := by omega
    have hdr := List.drop_eq_getElem_cons hil
    refine Ev.step (f := fun k => bound_Most.l1 k (mx m (t[i].length : Int)) l n p t (t.length : Int) ((i + 1 : Nat) : Int)) (fun k => ?_) (ih (i + 1) _ (by omega) (by omega) ?_)
    · simp only [bound_Most.l1]; rw [if_pos (by omega), if_pos (by omega), if_pos (by omega), rd2 t i hil, wrap_small (by omega) (by omega)]; rfl
    · rw [hdr] at h; exact h

theorem most_l0 (l : List (List (List S59))) (hl : l.length ≤ 1000) (ht : ∀ t ∈ l, t.length ≤ 1000) (d : Nat) : ∀ (i : Nat) (m : Int), l.length - i = d → i ≤ l.length →
    Ev (fun k => bound_Most.l0 k m l (l.length : Int) (i : Int)) (mostM m (l.drop i)) := by
  induction d with
  | zero =>
    intro i m hd hi
    have hil : i = l.length := by omega
    subst hil
    refine ev_now 1 (fun k => ?_)
    simp only [bound_Most.l0]; rw [if_neg (by omega)]; simp [mostM]
  | succ d ih =>
    intro i m hd hi
    have hil : i < l.length := by omega
    have hdr := List.drop_eq_getElem_cons hil
    refine Ev.step (f := fun k => bound_Most.l1 k m l (l.length : Int) (i : Int) l[i] (l[i].length : Int) ((0 : Nat) : Int)) (fun k => ?_) (most_l1 l _ _ _ l[i] (ht _ (List.getElem_mem _)) _ 0 m rfl (by omega) ?_)
    · simp only [bound_Most.l0]; rw [if_pos (by omega), if_pos (by omega), if_pos (by omega), rd3 l i hil]; rfl
    · rw [wrap_small (by omega) (by omega), hdr]
      exact ih (i + 1) (innerM m l[i]) (by omega) (by omega)

theorem rmost_l1 (l : List (List (List S59))) (r : Int) (p : Nat) (hp : p < l.length) (ht : l[p].length ≤ 1000) (d : Nat) : ∀ (i : Nat) (m : Int), l[p].length - i = d → i ≤ l[p].length →
    Ev (fun k => quarrelref23_Most.l0 k l (innerM m (l[p].drop i)) (wrap64 ((p : Int) + 1))) r → Ev (fun k => quarrelref23_Most.l1 k l m (p : Int) (i : Int)) r := by
  induction d with
  | zero =>
    intro i m hd hi h
    have hil : i = l[p].length := by omega
    subst hil
    refine Ev.step (f := fun k => quarrelref23_Most.l0 k l m (wrap64 ((p : Int) + 1))) (fun k => ?_) (by simpa [innerM] using h)
    simp only [quarrelref23_Most.l1]; rw [if_pos (by omega), if_pos (by omega), rd3 l p hp, if_neg (by omega)]
  | succ d ih =>
    intro i m hd hi h
    have hil : i < l[p].length := by omega
    have hdr := List.drop_eq_getElem_cons hil
    refine Ev.step (f := fun k => quarrelref23_Most.l1 k l (mx m (l[p][i].length : Int)) (p : Int) ((i + 1 : Nat) : Int)) (fun k => ?_) (ih (i + 1) _ (by omega) (by omega) ?_)
    · simp only [quarrelref23_Most.l1]; rw [if_pos (by omega), if_pos (by omega), rd3 l p hp, if_pos (by omega), if_pos (by omega), rd2 _ i hil, wrap_small (by omega) (by omega)]
      by_cases hgt : (l[p][i].length : Int) > m
      · rw [if_pos hgt]; unfold mx; rw [if_pos hgt]; rfl
      · rw [if_neg hgt]; unfold mx; rw [if_neg hgt]; rfl
    · rw [hdr] at h; exact h

theorem rmost_l0 (l : List (List (List S59))) (hl : l.length ≤ 1000) (ht : ∀ t ∈ l, t.length ≤ 1000) (d : Nat) : ∀ (i : Nat) (m : Int), l.length - i = d → i ≤ l.length →
    Ev (fun k => quarrelref23_Most.l0 k l m (i : Int)) (mostM m (l.drop i)) := by
  induction d with
  | zero =>
    intro i m hd hi
    have hil : i = l.length := by omega
    subst hil
    refine ev_now 1 (fun k => ?_)
    simp only [quarrelref23_Most.l0]; rw [if_neg (by omega)]; simp [mostM]
  | succ d ih =>
    intro i m hd hi
    have hil : i < l.length := by omega
    have hdr := List.drop_eq_getElem_cons hil
    refine Ev.step (f := fun k => quarrelref23_Most.l1 k l m (i : Int) ((0 : Nat) : Int)) (fun k => ?_) (rmost_l1 l _ i hil (ht _ (List.getElem_mem _)) _ 0 m rfl (by omega) ?_)
    · simp only [quarrelref23_Most.l0]; rw [if_pos (by omega)]; rfl
    · rw [wrap_small (by omega) (by omega), hdr]
      exact ih (i + 1) (innerM m l[i]) (by omega) (by omega)

/-! Great -/
def Fine (l : List (List (List S59))) : Prop := ∀ t ∈ l, t.length ≤ 20

theorem great_l1 (l : List (List (List S59))) (p : Nat) (hp : p < l.length) (ht : l[p].length ≤ 20) (h0 : ∃ r, Ev (fun k => quarrellaw16_Great.l0 k (wrap64 ((p : Int) + 1)) 0 0 0 0 0 0 [] [] l) r ∧ (r = 1 ∨ (r = 0 ∧ Fine (l.drop (p + 1))))) (d : Nat) :
    ∀ (i : Nat), l[p].length - i = d → i ≤ l[p].length → ∃ r, Ev (fun k => quarrellaw16_Great.l1 k (p : Int) (i : Int) 0 0 0 0 0 0 [] [] l) r ∧ (r = 1 ∨ (r = 0 ∧ Fine (l.drop (p + 1)))) := by
  induction d with
  | zero =>
    intro i hd hi
    obtain ⟨r, he, hr⟩ := h0
    refine ⟨r, Ev.step (fun k => ?_) he, hr⟩
    simp only [quarrellaw16_Great.l1]; rw [if_pos (by omega), if_pos (by omega), rd3 l p hp, if_neg (by omega)]
  | succ d ih =>
    intro i hd hi
    have hil : i < l[p].length := by omega
    obtain ⟨r, he, hr⟩ := ih (i + 1) (by omega) (by omega)
    by_cases hg : (l[p][i].length : Int) > 20
    · refine ⟨1, ev_now 1 (fun k => ?_), .inl rfl⟩
      simp only [quarrellaw16_Great.l1]; rw [if_pos (by omega), if_pos (by omega), rd3 l p hp, if_pos (by omega), if_pos (by omega), rd2 _ i hil, if_pos hg]
    · refine ⟨r, Ev.step (fun k => ?_) he, hr⟩
      simp only [quarrellaw16_Great.l1]; rw [if_pos (by omega), if_pos (by omega), rd3 l p hp, if_pos (by omega), if_pos (by omega), rd2 _ i hil, if_neg hg, wrap_small (by omega) (by omega)]; rfl

theorem great_l0 (l : List (List (List S59))) (hl : l.length ≤ 1000) (d : Nat) : ∀ (i : Nat), l.length - i = d → i ≤ l.length →
    ∃ r, Ev (fun k => quarrellaw16_Great.l0 k (i : Int) 0 0 0 0 0 0 [] [] l) r ∧ (r = 1 ∨ (r = 0 ∧ Fine (l.drop i))) := by
  induction d with
  | zero =>
    intro i hd hi
    refine ⟨0, ev_now 1 (fun k => ?_), .inr ⟨rfl, ?_⟩⟩
    · simp only [quarrellaw16_Great.l0]; rw [if_neg (by omega)]
    · have : i = l.length := by omega
      subst this; simp [Fine]
  | succ d ih =>
    intro i hd hi
    have hil : i < l.length := by omega
    have hdr := List.drop_eq_getElem_cons hil
    by_cases hg : (l[i].length : Int) > 20
    · refine ⟨1, ev_now 1 (fun k => ?_), .inl rfl⟩
      simp only [quarrellaw16_Great.l0]; rw [if_pos (by omega), if_pos (by omega), rd3 l i hil, if_pos hg]
    · obtain ⟨r, he, hr⟩ := great_l1 l i hil (by omega) (by rw [wrap_small (by omega) (by omega)]; exact ih (i + 1) (by omega) (by omega)) _ 0 rfl (by omega)
      refine ⟨r, Ev.step (fun k => ?_) he, ?_⟩
      · simp only [quarrellaw16_Great.l0]; rw [if_pos (by omega), if_pos (by omega), rd3 l i hil, if_neg hg]; rfl
      · rcases hr with h | ⟨h, hf⟩
        · exact .inl h
        · refine .inr ⟨h, ?_⟩
          rw [hdr]
          intro t htm
          rcases List.mem_cons.1 htm with rfl | htm
          · omega
          · exact hf t htm

theorem great_f (l : List (List (List S59))) : ∃ r, Ev (fun k => quarrellaw16_Great.f k 0 0 0 0 0 0 [] [] l) r ∧ (r = 1 ∨ (r = 0 ∧ l.length ≤ 10 ∧ Fine l)) := by
  by_cases hl : (l.length : Int) > 10
  · refine ⟨1, ev_now 1 (fun k => ?_), .inl rfl⟩
    simp only [quarrellaw16_Great.f]; rw [if_neg (by simp), if_neg (by simp), decide_eq_true hl]; simp [quarrellaw16_Great.j0]
  · obtain ⟨r, he, hr⟩ := great_l0 l (by omega) _ 0 rfl (by omega)
    refine ⟨r, Ev.step (fun k => ?_) he, ?_⟩
    · simp only [quarrellaw16_Great.f]; rw [if_neg (by simp), if_neg (by simp), decide_eq_false hl]; simp [quarrellaw16_Great.j0]
    · rcases hr with h | ⟨h, hf⟩
      · exact .inl h
      · exact .inr ⟨h, by omega, by simpa using hf⟩

theorem tells (n a w : Int) (l : List (List (List S59))) : ∃ k, quarrellaw23_BoundTells.f k n a w l = some true := by
  refine Ev.rounds ?_
  unfold quarrellaw23_BoundTells.f
  refine Ev.bind (a := true) (ev_now 6 alive_eq) ?_
  simp only [if_true]
  obtain ⟨r, he, hr⟩ := great_f l
  refine Ev.bind (a := r) he ?_
  rcases hr with rfl | ⟨rfl, hl, hf⟩
  · exact Ev.now true
  simp only [show ¬ ((0 : Int) > 0) by omega, if_false]
  refine Ev.bind (ev_now 6 (fun k => solo_eq k a w)) ?_
  rw [rsolo_eq]; simp only [Option.bind_some, if_true]
  refine Ev.bind (ev_now 6 (fun k => need_eq k a)) ?_
  rw [rneed_eq]; simp only [Option.bind_some, if_true]
  refine Ev.bind (ev_now 6 (fun k => whole_eq k n a w)) ?_
  rw [rwhole_eq]; simp only [Option.bind_some, if_true]
  have hb : ∀ t ∈ l, t.length ≤ 1000 := fun t ht => by have := hf t ht; omega
  refine Ev.bind (a := mostM 0 l) (by have := most_l0 l (by omega) hb _ 0 0 rfl (by omega); simpa [bound_Most.f] using this) ?_
  refine Ev.bind (a := mostM 0 l) (by have := rmost_l0 l (by omega) hb _ 0 0 rfl (by omega); simpa [quarrelref23_Most.f] using this) ?_
  simp only [beq_self_eq_true]
  exact Ev.now true

end Go.Proofs.Ytmolkkidnkgglaa.BPure
