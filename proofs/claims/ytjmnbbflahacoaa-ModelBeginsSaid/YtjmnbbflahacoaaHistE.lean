/- hist, fifth part: the book: as a list of tries (the plain law of an event), and as it lies in memory. No condition. -/
import Derived.Test.YtjmnbbflahacoaaHistD
import Derived.Test.YtjmnbbflahacoaaMaps
import Derived.WideKeyPair
namespace Go.Proofs.Ytjmnbbflahacoaa.Hist
open Go.RowKit Go.Proofs.Ytjmnbbflahacoaa.Mem Go.Proofs.Ytjmnbbflahacoaa.PHistTells Go.Proofs.YtjmnbbflahacoaaW.PrintWords
set_option linter.unusedVariables false
set_option linter.unusedSimpArgs false

theorem snoc_ind {α : Type} {P : List α → Prop} (h0 : P []) (h1 : ∀ l x, P l → P (l ++ [x])) (l : List α) : P l := by
  have key : ∀ n, ∀ l : List α, l.length = n → P l := by
    intro n
    induction n with
    | zero => intro l hl; rw [List.eq_nil_of_length_eq_zero hl]; exact h0
    | succ n ih =>
      intro l hl
      have hne : l ≠ [] := by rintro rfl; simp at hl
      rw [← List.dropLast_concat_getLast hne]
      exact h1 _ _ (ih _ (by simp [hl]))
  exact key _ l rfl
/-- The last place at which a list of threads has th. -/
def lastIx (th : Int) (l : List Int) : Option Nat := (l.foldl (fun (p : Nat × Option Nat) t => (p.1 + 1, if t == th then some p.1 else p.2)) (0, none)).2
theorem lastIx_fst (th : Int) (l : List Int) : ∀ p : Nat × Option Nat, (l.foldl (fun (p : Nat × Option Nat) t => (p.1 + 1, if t == th then some p.1 else p.2)) p).1 = p.1 + l.length := by
  induction l with
  | nil => intro p; rfl
  | cons x l ih => intro p; rw [List.foldl_cons, ih]; simp; omega
theorem lastIx_snoc (th : Int) (l : List Int) (t : Int) : lastIx th (l ++ [t]) = if t == th then some l.length else lastIx th l := by
  unfold lastIx
  rw [List.foldl_append]
  simp only [List.foldl_cons, List.foldl_nil]
  rw [lastIx_fst]
  simp
theorem lastIx_nil (th : Int) : lastIx th [] = none := rfl
theorem lastIx_spec (th : Int) (l : List Int) (k : Nat) (h : lastIx th l = some k) : l[k]? = some th ∧ ∀ j, k < j → l[j]? ≠ some th := by
  revert k
  refine snoc_ind (P := fun l => ∀ k, lastIx th l = some k → l[k]? = some th ∧ ∀ j, k < j → l[j]? ≠ some th) ?_ ?_ l
  · intro k h; cases h
  · intro l t ih k h
    rw [lastIx_snoc] at h
    by_cases e : t = th
    · rw [if_pos (by simp [e])] at h
      injection h with h
      subst h
      exact ⟨by simp [e], fun j hj hh => by
        have := (List.getElem?_eq_some_iff.1 hh).1
        simp at this
        omega⟩
    · rw [if_neg (by simp [e])] at h
      obtain ⟨h1, h2⟩ := ih k h
      have hk := (List.getElem?_eq_some_iff.1 h1).1
      refine ⟨by rw [List.getElem?_append_left hk]; exact h1, fun j hj hh => ?_⟩
      rcases Nat.lt_or_ge j l.length with hlt | hge
      · rw [List.getElem?_append_left hlt] at hh
        exact h2 j hj hh
      · rw [List.getElem?_append_right hge] at hh
        have := (List.getElem?_eq_some_iff.1 hh).1
        simp at this
        have : j - l.length = 0 := by omega
        rw [this] at hh
        simp at hh
        exact e hh
theorem lastIx_none (th : Int) (l : List Int) : lastIx th l = none → ∀ j : Nat, l[j]? ≠ some th := by
  refine snoc_ind (P := fun l => lastIx th l = none → ∀ j : Nat, l[j]? ≠ some th) ?_ ?_ l
  · intro _ j h; simp at h
  · intro l t ih h j hh
    rw [lastIx_snoc] at h
    by_cases e : t = th
    · rw [if_pos (by simp [e])] at h; cases h
    · rw [if_neg (by simp [e])] at h
      rcases Nat.lt_or_ge j l.length with hlt | hge
      · rw [List.getElem?_append_left hlt] at hh
        exact ih h j hh
      · rw [List.getElem?_append_right hge] at hh
        have := (List.getElem?_eq_some_iff.1 hh).1
        simp at this
        have : j - l.length = 0 := by omega
        rw [this] at hh
        simp at hh
        exact e hh

/-- A thread's last try, of a list of tries. -/
def lastOf (th : Int) (ts : List Tr) : Option Nat := lastIx th (ts.map (·.f0))
theorem lastOf_lt {th : Int} {ts : List Tr} {k : Nat} (h : lastOf th ts = some k) : k < ts.length := by
  have := (List.getElem?_eq_some_iff.1 (lastIx_spec th _ k h).1).1
  simpa using this
/-- How many tries a transaction has. -/
def countOf (th tx : Int) (ts : List Tr) : Nat := ts.countP (fun t => t.f0 == th && t.f1 == tx)
def isOpen (ts : List Tr) (th : Int) : Bool := match lastOf th ts with
  | some k => match ts[k]? with
    | some t => decide (t.f5 < 0)
    | none => false
  | none => false
def newTr (i : Int) (e : Ev) : Tr := ⟨e.f1, e.f2, e.f3, e.f5, i, -1, 0, false, []⟩
/-- A right event of a try that goes on. -/
def turnTr (t : Tr) (i : Int) (e : Ev) : Option Tr :=
  if e.f0 == 2 || e.f0 == 3 then some (withAcc t (t.f8 ++ [accOf t i e]))
  else if e.f0 == 4 then some (withAcc t (t.f8.map (relAcc e.f4)))
  else if e.f0 == 5 then some { t with f5 := i, f7 := true }
  else if e.f0 == 6 then some { t with f5 := i, f6 := e.f6 }
  else none
/-- An event: none: it isn't right. -/
def stepM (ts : List Tr) (i : Int) (e : Ev) : Option (List Tr) :=
  if e.f0 == 1 then (if isOpen ts e.f1 || !(e.f3 == (countOf e.f1 e.f2 ts : Int) + 1) then none else some (ts ++ [newTr i e]))
  else if e.f0 == 7 then (if isOpen ts e.f1 then none else some ts)
  else match lastOf e.f1 ts with
    | some k => match ts[k]? with
      | some t => if decide (t.f5 < 0) && t.f1 == e.f2 && t.f2 == e.f3 then (turnTr t i e).map (ts.set k) else none
      | none => none
    | none => none

/-- An event's fields are int64s. -/
structure EvOk (e : Ev) : Prop where
  w1 : (Lit.int .i64 e.f1).wf = true
  w2 : (Lit.int .i64 e.f2).wf = true

set_option maxRecDepth 100000 in
theorem keyOf_key {a b : Int} (wa : (Lit.int .i64 a).wf = true) (wb : (Lit.int .i64 b).wf = true) :
    keyOf Try.prog 173 (.agg #[.int .i64 a, .int .i64 b]) = some (.string (keyBytes [.int .i64 a, .int .i64 b])) := by
  have hkt : Try.prog.keyType 173 = true := by kernel_rfl
  have hc : Try.prog.cellsOf 173 = 2 := by kernel_rfl
  have hc3 : Try.prog.cellsOf 3 = 1 := by kernel_rfl
  obtain ⟨m, hm⟩ : ∃ m, Try.prog.types.size = m + 1 := ⟨Try.prog.types.size - 1, by kernel_rfl⟩
  unfold keyOf
  simp only [Try.underlying173]
  rw [if_pos (by simp [hkt, Value.formed, Try.underlying173, hc]), hm]
  unfold Program.keyLits
  simp only [Try.underlying173, Value.cells]
  rw [if_pos (by rw [hc]; exact ⟨rfl, by simp⟩), List.mapM_cons, List.mapM_cons, List.mapM_nil]
  simp [hc3, Program.keyLits, Try.underlying3, wa, wb]
theorem keyOf_thread {a : Int} (wa : (Lit.int .i64 a).wf = true) : keyOf Try.prog 3 (.int .i64 a) = some (.int .i64 a) := Go.Maps.keyOf_int_mk Try.underlying3 wa
set_option maxRecDepth 100000 in
theorem keyed_key : Go.Maps.Keyed Try.prog 173 := Go.Maps.Keyed.of_law (deep_law_laid (by kernel_rfl) (m := 1000) (by decide) (Nat.le_of_ble_eq_true (by kernel_rfl)) (by kernel_rfl) (by rw [Try.underlying173]))
theorem keyed_thread : Go.Maps.Keyed Try.prog 3 := Go.Maps.int_keyed Try.underlying3

/-- Look-ups of the book's maps. -/
theorem last_look {w : World} {ml : Nat} {m : Value → Option Value} (h : MapAt Try.prog 3 w ml m) {a : Int} (wa : (Lit.int .i64 a).wf = true) :
    (Instr.lookup 120 (.map (some ml)) (.int .i64 a) false).run Try.prog w = .ok ((m (.int .i64 a)).getD (.pointer none)) w :=
  run_lookup keyed_thread Try.underlying120 (by intro u; go_simp) (keyOf_thread wa) h
theorem count_look {w : World} {mc : Nat} {m : Value → Option Value} (h : MapAt Try.prog 173 w mc m) {a b : Int} (wa : (Lit.int .i64 a).wf = true) (wb : (Lit.int .i64 b).wf = true) :
    (Instr.lookup 121 (.map (some mc)) (.agg #[.int .i64 a, .int .i64 b]) false).run Try.prog w = .ok ((m (.agg #[.int .i64 a, .int .i64 b])).getD (.int .i64 0)) w :=
  run_lookup keyed_key Try.underlying121 (by intro u; go_simp) (keyOf_key wa wb) h

def kPtr : Kd Nat := Kd.scalar (fun b => .pointer (some ⟨b, 0, none⟩)) (fun _ => rfl)

def key1 : Value → Option Int
  | .int .i64 a => some a
  | _ => none
def key2L : List Value → Option (Int × Int)
  | [.int .i64 a, .int .i64 b] => some (a, b)
  | _ => none
def key2 : Value → Option (Int × Int)
  | .agg cells => key2L cells.toList
  | _ => none
theorem key1_of {v : Value} {a : Int} (h : key1 v = some a) : v = .int .i64 a := by
  unfold key1 at h
  split at h
  · injection h with h; subst h; rfl
  · cases h
theorem key2_of {v : Value} {a b : Int} (h : key2 v = some (a, b)) : v = .agg #[.int .i64 a, .int .i64 b] := by
  unfold key2 at h
  split at h
  · rename_i cells
    unfold key2L at h
    split at h
    · rename_i x y he
      injection h with h
      injection h with h1 h2
      subst h1 h2
      rw [← Array.toArray_toList (xs := cells), he]
    · cases h
  · cases h
/-- What last says: the try's block. -/
def lastM (bs : List Nat) (ts : List Tr) (v : Value) : Option Value := (key1 v).bind fun th => ((lastOf th ts).bind (bs[·]?)).map (fun b => .pointer (some ⟨b, 0, none⟩))
/-- What count says. -/
def countM (ts : List Tr) (v : Value) : Option Value := (key2 v).bind fun p => if countOf p.1 p.2 ts = 0 then none else some (.int .i64 (countOf p.1 p.2 ts))
theorem lastM_eq (bs : List Nat) (ts : List Tr) (th : Int) : lastM bs ts (.int .i64 th) = ((lastOf th ts).bind (bs[·]?)).map (fun b => .pointer (some ⟨b, 0, none⟩)) := rfl
theorem countM_eq (ts : List Tr) (th tx : Int) : countM ts (.agg #[.int .i64 th, .int .i64 tx]) = if countOf th tx ts = 0 then none else some (.int .i64 (countOf th tx ts)) := rfl

/-- A book that lies at bb: its tries' blocks bs, their accesses' rows ro, its own row rv, its maps ml and mc. -/
structure BookAt (w : World) (base bb : Nat) (bs : List Nat) (ro : Nat → Value) (ts : List Tr) (rv : Value) (ml mc : Nat) : Prop where
  blk : Blk w bb 124 [rv, .map (some ml), .map (some mc)]
  low : base ≤ bb
  row : kPtr.R 85 w base (fun _ => True) rv bs
  len : bs.length = ts.length
  tries : ∀ (k : Nat) (b : Nat) (t : Tr), bs[k]? = some b → ts[k]? = some t → TryAt w base b t (ro b)
  nodup : bs.Nodup
  apart : ∀ b b', b ∈ bs → b' ∈ bs → b ≠ b' → ∀ k, (ro b).ownBlock = some k → (ro b').ownBlock ≠ some k
  lastAt : MapAt Try.prog 3 w ml (lastM bs ts)
  countAt : MapAt Try.prog 173 w mc (countM ts)
  lowl : base ≤ ml
  lowc : base ≤ mc
  maps : ml ≠ mc
end Go.Proofs.Ytjmnbbflahacoaa.Hist
