/- hist, sixth part: a try begins. No condition. -/
import Derived.Test.YtjmnbbflahacoaaHistX
import Derived.Test.YtjmnbbflahacoaaBase
import Derived.Outline
import Derived.Shelf.Abstract
import Derived.Shelf.RegionOpen
import Derived.OwnWalkIn
import Derived.TacticsInMore
import Derived.LoopNIn
import Derived.LoopIn
import Derived.Maps.OwnIn
namespace Go.Proofs.Ytjmnbbflahacoaa.Hist
open Go.RowKit Go.ChangeMaps Go.Maps Go.Proofs.Ytjmnbbflahacoaa.Mem Go.Proofs.Ytjmnbbflahacoaa.PHistTells Go.Proofs.YtjmnbbflahacoaaW.PrintWords
set_option linter.unusedVariables false
set_option linter.unusedSimpArgs false

theorem below_drewN {w : World} (n : Nat) : Below w.heap.size w (w.drewN n) := ⟨rfl, rfl, rfl, Nat.le_refl _, fun _ _ => rfl⟩
theorem _root_.Go.RowKit.Below.drewN {B : Nat} {a w : World} (h : Below B a w) (n : Nat) : Below B a (w.drewN n) := ⟨h.os, h.tape, h.output, h.size, h.block⟩
theorem MapAt.below {P : Program} {K : TypeId} {w w' : World} {b : Nat} {m : Value → Option Value} (h : MapAt P K w b m) (hb : Below w.heap.size w w') : MapAt P K w' b m := h.same (hb.block b h.lt)
theorem TryAt.below {w w' : World} {base b : Nat} {t : Tr} {row : Value} (h : TryAt w base b t row) (hb : Below w.heap.size w w') : TryAt w' base b t row :=
  h.upd (Upd.ofBelow hb (fun _ => False)) (fun h => h) (fun _ _ h => h)
theorem BookAt.below {w w' : World} {base bb : Nat} {bs : List Nat} {ro : Nat → Value} {ts : List Tr} {rv : Value} {ml mc : Nat} (h : BookAt w base bb bs ro ts rv ml mc) (hb : Below w.heap.size w w') : BookAt w' base bb bs ro ts rv ml mc :=
  ⟨h.blk.below hb h.blk.lt, h.low, Kd.R_below h.row hb, h.len, fun k b t hk ht => (h.tries k b t hk ht).below hb, h.nodup, h.apart, MapAt.below h.lastAt hb, MapAt.below h.countAt hb, h.lowl, h.lowc, h.maps⟩

/-- Block k's cells are of the type T. -/
def Typed (w : World) (k T : Nat) : Prop := ∃ cells, w.heap[k]? = some (.cells cells T (0, 0))
theorem Typed.ne {w : World} {k T T' : Nat} (h : Typed w k T) (h' : Typed w k T') : T = T' := by
  obtain ⟨c, h⟩ := h
  obtain ⟨c', h'⟩ := h'
  rw [h] at h'
  injection h' with h'
  injection h' with _ h'
theorem Typed.not_map {w : World} {k T : Nat} {P : Program} {K : TypeId} {m : Value → Option Value} (h : Typed w k T) (h' : MapAt P K w k m) : False := by
  obtain ⟨c, h⟩ := h
  obtain ⟨es, clock, h', _⟩ := h'
  rw [h] at h'
  cases h'
theorem blk_typed {w : World} {b T : Nat} {cs : List Value} (h : Blk w b T cs) : Typed w b T := ⟨_, h⟩
theorem row_typed {α : Type} {d : Kd α} {e : Nat} {w : World} {base : Nat} {ok : Nat → Prop} {v : Value} {xs : List α} (h : d.R e w base ok v xs) {k : Nat} (hk : v.ownBlock = some k) : Typed w k e := by
  obtain ⟨inner, ho⟩ := Kd.R_own h
  exact own_typed ho k hk
/-- A try stands where no block of its two types turns. -/
theorem TryAt.stay {S : Nat → Prop} {w w' : World} {base b : Nat} {t : Tr} {row : Value} (h : TryAt w base b t row) (hu : Upd S w w')
    (hS : ∀ k, S k → ¬ Typed w k 29 ∧ ¬ Typed w k 33) : TryAt w' base b t row :=
  h.upd hu (fun hs => (hS _ hs).1 (blk_typed h.blk)) (fun k hk hs => (hS _ hs).2 (row_typed h.acc hk))

theorem not_typed {w : World} {k T : Nat} (h : Typed w k T) (h1 : T ≠ 29) (h2 : T ≠ 33) : ¬ Typed w k 29 ∧ ¬ Typed w k 33 := ⟨fun h' => h1 (h.ne h'), fun h' => h2 (h.ne h')⟩
theorem not_typed_map {w : World} {k : Nat} {P : Program} {K : TypeId} {m : Value → Option Value} (h : MapAt P K w k m) : ¬ Typed w k 29 ∧ ¬ Typed w k 33 := ⟨fun h' => h'.not_map h, fun h' => h'.not_map h⟩

theorem lastOf_snoc (th : Int) (ts : List Tr) (t : Tr) : lastOf th (ts ++ [t]) = if t.f0 == th then some ts.length else lastOf th ts := by
  unfold lastOf
  rw [List.map_append, List.map_cons, List.map_nil, lastIx_snoc, List.length_map]
theorem countOf_snoc (th tx : Int) (ts : List Tr) (t : Tr) : countOf th tx (ts ++ [t]) = countOf th tx ts + (if t.f0 == th && t.f1 == tx then 1 else 0) := by
  unfold countOf
  rw [List.countP_append, List.countP_singleton]

theorem lastM_snoc (bs : List Nat) (ts : List Tr) (t : Tr) (b : Nat) (hl : bs.length = ts.length) (x : Value) : lastM (bs ++ [b]) (ts ++ [t]) x = put (lastM bs ts) (.int .i64 t.f0) (.pointer (some ⟨b, 0, none⟩)) x := by
  by_cases h : x = .int .i64 t.f0
  · subst h
    rw [put_same, lastM_eq, lastOf_snoc, if_pos (by simp)]
    simp [← hl]
  · rw [put_other _ _ h]
    unfold lastM
    cases hk : key1 x with
    | none => rfl
    | some th =>
      have hx := key1_of hk
      subst hx
      have hne : ¬ (t.f0 == th) = true := by
        intro e
        rw [beq_iff_eq] at e
        exact h (by rw [e])
      simp only [Option.bind_some]
      rw [lastOf_snoc, if_neg hne]
      cases hl2 : lastOf th ts with
      | none => rfl
      | some k =>
        have := lastOf_lt hl2
        simp only [Option.bind_some]
        rw [List.getElem?_append_left (by omega)]
theorem countM_snoc (ts : List Tr) (t : Tr) (x : Value) : countM (ts ++ [t]) x = put (countM ts) (.agg #[.int .i64 t.f0, .int .i64 t.f1]) (.int .i64 ((countOf t.f0 t.f1 ts : Nat) + 1 : Int)) x := by
  by_cases h : x = .agg #[.int .i64 t.f0, .int .i64 t.f1]
  · subst h
    rw [put_same, countM_eq, countOf_snoc]
    simp
  · rw [put_other _ _ h]
    unfold countM
    cases hk : key2 x with
    | none => rfl
    | some p =>
      obtain ⟨th, tx⟩ := p
      have hx := key2_of hk
      subst hx
      have hne : ¬ (t.f0 == th && t.f1 == tx) = true := by
        intro e
        rw [Bool.and_eq_true, beq_iff_eq, beq_iff_eq] at e
        exact h (by rw [e.1, e.2])
      simp only [Option.bind_some]
      rw [countOf_snoc, if_neg hne, Nat.add_zero]

/-- A try has begun: the book. -/
theorem begin_close {w w3 w9 : World} {base bb : Nat} {bs : List Nat} {ro : Nat → Value} {ts : List Tr} {rv rv' : Value} {ml mc tb : Nat} {i : Int} {e : Ev} (HB : BookAt w base bb bs ro ts rv ml mc) (hbase : base ≤ w.heap.size)
    (HU : Upd (fun k => rv.ownBlock = some k) w w3) (hrow : kPtr.R 85 w3 base (fun _ => True) rv' (bs ++ [tb])) (htb : Blk w3 tb 29 (trC (newTr i e) (.slice none 0 0))) (hnew : w.heap.size ≤ tb)
    (HU9 : Upd (fun k => k = bb ∨ k = ml ∨ k = mc) w3 w9) (blk9 : Blk w9 bb 124 [rv', .map (some ml), .map (some mc)])
    (ml9 : MapAt Try.prog 3 w9 ml (put (lastM bs ts) (.int .i64 e.f1) (.pointer (some ⟨tb, 0, none⟩))))
    (mc9 : MapAt Try.prog 173 w9 mc (put (countM ts) (.agg #[.int .i64 e.f1, .int .i64 e.f2]) (.int .i64 ((countOf e.f1 e.f2 ts : Nat) + 1 : Int)))) :
    BookAt w9 base bb (bs ++ [tb]) (fun x => if x = tb then .slice none 0 0 else ro x) (ts ++ [newTr i e]) rv' ml mc := by
  have hold : ∀ b, b ∈ bs → b < w.heap.size := fun b hb => by
    obtain ⟨k, hk⟩ := List.getElem?_of_mem hb
    have hlt : k < ts.length := by rw [← HB.len]; exact (List.getElem?_eq_some_iff.1 hk).1
    exact (HB.tries k b _ hk (List.getElem?_eq_getElem hlt)).blk.lt
  have hT3 : ∀ k, (k = bb ∨ k = ml ∨ k = mc) → ¬ Typed w3 k 29 ∧ ¬ Typed w3 k 33 := by
    have hnb : ∀ k, Typed w k 124 → ¬ rv.ownBlock = some k := fun k h he => absurd (h.ne (row_typed HB.row he)) (by decide)
    rintro k (rfl | rfl | rfl)
    · exact not_typed (blk_typed (HB.blk.upd HU (hnb _ (blk_typed HB.blk)))) (by decide) (by decide)
    · exact not_typed_map (HB.lastAt.upd HU (fun he => (row_typed HB.row he).not_map HB.lastAt))
    · exact not_typed_map (HB.countAt.upd HU (fun he => (row_typed HB.row he).not_map HB.countAt))
  have hS1 : ∀ k, rv.ownBlock = some k → ¬ Typed w k 29 ∧ ¬ Typed w k 33 := fun k hk => not_typed (row_typed HB.row hk) (by decide) (by decide)
  refine ⟨blk9, HB.low, ?_, by simp [HB.len], ?_, ?_, ?_, ml9.ext (fun x => lastM_snoc bs ts (newTr i e) tb HB.len x), mc9.ext (fun x => countM_snoc ts (newTr i e) x), HB.lowl, HB.lowc, HB.maps⟩
  · refine Kd.R_mono (Kd.R_step (Kd.R_tight (by rfl) hrow) (fun k hk hlt => HU9.block k hlt ?_)) (fun _ _ => trivial)
    have hty := row_typed hrow hk.symm
    rintro (rfl | rfl | rfl)
    · exact absurd (hty.ne (blk_typed (HB.blk.upd HU (fun he => absurd ((blk_typed HB.blk).ne (row_typed HB.row he)) (by decide))))) (by decide)
    · exact hty.not_map (HB.lastAt.upd HU (fun he => (row_typed HB.row he).not_map HB.lastAt))
    · exact hty.not_map (HB.countAt.upd HU (fun he => (row_typed HB.row he).not_map HB.countAt))
  · intro k b t hk ht
    rcases Nat.lt_or_ge k bs.length with hlt | hge
    · rw [List.getElem?_append_left hlt] at hk
      rw [List.getElem?_append_left (by rw [← HB.len]; exact hlt)] at ht
      have hb := hold b (List.mem_of_getElem? hk)
      rw [if_neg (by omega)]
      exact ((HB.tries k b t hk ht).stay HU hS1).stay HU9 hT3
    · rw [List.getElem?_append_right hge] at hk
      rw [List.getElem?_append_right (by rw [← HB.len]; exact hge)] at ht
      have hk0 : k - bs.length = 0 := by
        have := (List.getElem?_eq_some_iff.1 hk).1
        simp at this
        omega
      rw [hk0] at hk
      rw [← HB.len, hk0] at ht
      simp only [List.getElem?_cons_zero, Option.some.injEq] at hk ht
      subst hk ht
      rw [if_pos rfl]
      have h3 : TryAt w3 base tb (newTr i e) (.slice none 0 0) := ⟨htb, by omega, Kd.R_nil _ _ _ _ _⟩
      exact h3.stay HU9 hT3
  · rw [List.nodup_append]
    refine ⟨HB.nodup, by simp, fun a ha b hb => ?_⟩
    simp only [List.mem_singleton] at hb
    have := hold a ha
    omega
  · intro b b' hb hb' hne k hk
    by_cases e1 : b = tb
    · rw [if_pos e1] at hk; cases hk
    · rw [if_neg e1] at hk
      by_cases e2 : b' = tb
      · rw [if_pos e2]; intro h; cases h
      · rw [if_neg e2]
        simp only [List.mem_append, List.mem_singleton] at hb hb'
        exact HB.apart b b' (hb.resolve_right e1) (hb'.resolve_right e2) hne k hk

theorem info85 : (Try.prog.info? 85).map (fun i => (i.zero, i.size, i.bytes)) = some (some (.pointer none), 1, 8) := by kernel_rfl

theorem begin_cells {w w1 w3 : World} {base bb : Nat} {bs : List Nat} {ro : Nat → Value} {ts : List Tr} {rv : Value} {ml mc : Nat} {T : Nat} {zs : Array Value} {ev kv : List Value} {t0 t1 : Nat}
    (hr : ∀ k, rv.ownBlock = some k → k < w.heap.size) (HW : Below w.heap.size w w1) (HB : BookAt w1 base bb bs ro ts rv ml mc) (hg : (w1.alloc (.cells zs T)).grownBy w3 rv.ownBlock)
    (HEv : Blk w1 w.heap.size t0 ev) (HK : Blk w1 (w.heap.size + 1) t1 kv) :
    Blk w3 bb 124 [rv, .map (some ml), .map (some mc)] ∧ Blk w3 w.heap.size t0 ev ∧ Blk w3 (w.heap.size + 1) t1 kv ∧ Blk w3 w1.heap.size T zs.toList ∧
      MapAt Try.prog 3 w3 ml (lastM bs ts) ∧ MapAt Try.prog 173 w3 mc (countM ts) ∧ Upd (fun k => rv.ownBlock = some k) w1 w3 := by
  have hu : Upd (fun k => rv.ownBlock = some k) w1 w3 := ((Upd.refl _ _).alloc _).grown hg (fun k hk _ => hk)
  refine ⟨HB.blk.upd hu (fun he => absurd ((blk_typed HB.blk).ne (row_typed HB.row he)) (by decide)), HEv.upd hu (fun he => by have := hr _ he; omega), HK.upd hu (fun he => by have := hr _ he; omega), ?_,
    HB.lastAt.upd hu (fun he => (row_typed HB.row he).not_map HB.lastAt), HB.countAt.upd hu (fun he => (row_typed HB.row he).not_map HB.countAt), hu⟩
  exact (hg.block _ (by simp) (fun he => by have := hr _ he.symm; have := HW.size; omega)).trans (Blk.new w1 zs T)

/-- What stands where begin's maps are told. -/
structure BeginAt (w : World) (bb ml mc e k : Nat) (rv : Value) (ev kv : List Value) (l m : Value → Option Value) : Prop where
  blk : Blk w bb 124 [rv, .map (some ml), .map (some mc)]
  ev : Blk w e 31 ev
  kv : Blk w k 173 kv
  last : MapAt Try.prog 3 w ml l
  count : MapAt Try.prog 173 w mc m
theorem begin_store {w1 w3 : World} {base bb : Nat} {bs : List Nat} {ro : Nat → Value} {ts : List Tr} {rv rv1 : Value} {ml mc e k : Nat} {ev kv : List Value} {l m : Value → Option Value} (HB : BookAt w1 base bb bs ro ts rv ml mc)
    (h1 : Blk w3 bb 124 [rv1, .map (some ml), .map (some mc)]) (h2 : Blk w3 e 31 ev) (h3 : Blk w3 k 173 kv) (h4 : MapAt Try.prog 3 w3 ml l) (h5 : MapAt Try.prog 173 w3 mc m) {v : Value} :
    BeginAt (w3.setCell ⟨bb, 0, none⟩ v) bb ml mc e k v ev kv l m :=
  ⟨h1.set 0 v, h2.far (h2.ne h1 (by decide)) _, h3.far (h3.ne h1 (by decide)) _, h4.same (Below.heap_setCell w3 _ v ml (h4.not_blk h1)), h5.same (Below.heap_setCell w3 _ v mc (h5.not_blk h1))⟩
theorem BeginAt.setl {w : World} {bb ml mc e k : Nat} {rv : Value} {ev kv : List Value} {l m l' : Value → Option Value} (h : BeginAt w bb ml mc e k rv ev kv l m) (hne : ml ≠ mc) (o : Obj) (hl : MapAt Try.prog 3 (setBlock w ml o) ml l') : BeginAt (setBlock w ml o) bb ml mc e k rv ev kv l' m :=
  ⟨blk_setBlock h.blk (h.last.not_blk h.blk).symm o, blk_setBlock h.ev (h.last.not_blk h.ev).symm o, blk_setBlock h.kv (h.last.not_blk h.kv).symm o, hl, mapAt_setBlock h.count hne.symm o⟩
theorem BeginAt.setm {w : World} {bb ml mc e k : Nat} {rv : Value} {ev kv : List Value} {l m m' : Value → Option Value} (h : BeginAt w bb ml mc e k rv ev kv l m) (hne : ml ≠ mc) (o : Obj) (hl : MapAt Try.prog 173 (setBlock w mc o) mc m') : BeginAt (setBlock w mc o) bb ml mc e k rv ev kv l m' :=
  ⟨blk_setBlock h.blk (h.count.not_blk h.blk).symm o, blk_setBlock h.ev (h.count.not_blk h.ev).symm o, blk_setBlock h.kv (h.count.not_blk h.kv).symm o, mapAt_setBlock h.last hne o, hl⟩
theorem setBlock_get {w : World} {b : Nat} (h : b < w.heap.size) (o : Obj) : (setBlock w b o).heap[b]? = some o := by simp [setBlock, h]
theorem setBlock_twice (w : World) (b : Nat) (o o' : Obj) : setBlock (setBlock w b o) b o' = setBlock w b o' := by unfold setBlock; simp
theorem BeginAt.set2 {w : World} {bb ml mc e k : Nat} {rv : Value} {ev kv : List Value} {l m l' : Value → Option Value} (h : BeginAt w bb ml mc e k rv ev kv l m) (hne : ml ≠ mc) (o o' : Obj) (hl : MapAt Try.prog 3 (setBlock (setBlock w.drew ml o) ml o') ml l') : BeginAt (setBlock (setBlock w.drew ml o) ml o') bb ml mc e k rv ev kv l' m := by
  rw [setBlock_twice] at hl ⊢
  have hd : BeginAt w.drew bb ml mc e k rv ev kv l m := ⟨h.blk, h.ev, h.kv, h.last.same rfl, h.count.same rfl⟩
  exact hd.setl hne o' hl
theorem BeginAt.set3 {w : World} {bb ml mc e k : Nat} {rv : Value} {ev kv : List Value} {l m m' : Value → Option Value} (h : BeginAt w bb ml mc e k rv ev kv l m) (hne : ml ≠ mc) (o o' : Obj) (hl : MapAt Try.prog 173 (setBlock (setBlock w mc o) mc o') mc m') : BeginAt (setBlock (setBlock w mc o) mc o') bb ml mc e k rv ev kv l m' := by
  rw [setBlock_twice] at hl ⊢
  exact h.setm hne o' hl
theorem begin_S {w : World} {bb e k ml mc t t1 t2 : Nat} {rv : Value} {a0 a1 a2 a3 a4 a5 a6 k0 k1 : Value} (h1 : Blk w bb t [rv, .map (some ml), .map (some mc)]) (h2 : Blk w e t1 [a0, a1, a2, a3, a4, a5, a6]) (h3 : Blk w k t2 [k0, k1]) :
    w.cell? ⟨bb, 1, none⟩ = some (.map (some ml)) ∧ w.cell? ⟨bb, 2, none⟩ = some (.map (some mc)) ∧ w.cell? ⟨e, 1, none⟩ = some a1 ∧ w.cell? ⟨e, 3, none⟩ = some a3 ∧ w.cell? ⟨k, 0, none⟩ = some k0 ∧ w.cell? ⟨k, 1, none⟩ = some k1 :=
  ⟨h1.cell 1 _ rfl, h1.cell 2 _ rfl, h2.cell 1 _ rfl, h2.cell 3 _ rfl, h3.cell 0 _ rfl, h3.cell 1 _ rfl⟩

theorem lastM_at {bs : List Nat} {ts : List Tr} {th : Int} {k b : Nat} (hk : lastOf th ts = some k) (hb : bs[k]? = some b) : (lastM bs ts (.int .i64 th)).getD (.pointer none) = .pointer (some ⟨b, 0, none⟩) := by
  rw [lastM_eq, hk]; simp [hb]
theorem lastM_none {bs : List Nat} {ts : List Tr} {th : Int} (hk : lastOf th ts = none) : (lastM bs ts (.int .i64 th)).getD (.pointer none) = .pointer none := by
  rw [lastM_eq, hk]; rfl
theorem countM_at (ts : List Tr) (th tx : Int) : (countM ts (.agg #[.int .i64 th, .int .i64 tx])).getD (.int .i64 0) = .int .i64 (countOf th tx ts) := by
  rw [countM_eq]
  by_cases h : countOf th tx ts = 0
  · rw [h]; rfl
  · simp [h]

theorem open_of {w : World} {base bb : Nat} {bs : List Nat} {ro : Nat → Value} {ts : List Tr} {rv : Value} {ml mc : Nat} (h : BookAt w base bb bs ro ts rv ml mc) (th : Int) :
    Calls Try.prog 91 #[(lastM bs ts (.int .i64 th)).getD (.pointer none)] w fun e w' => e = .returned (.bool (isOpen ts th)) ∧ w = w' := by
  cases hk : lastOf th ts with
  | none =>
    rw [lastM_none hk]
    have : isOpen ts th = false := by unfold isOpen; rw [hk]
    rw [this]
    exact open_nil w
  | some k =>
    have hlt := lastOf_lt hk
    have hlb : k < bs.length := by rw [h.len]; exact hlt
    rw [lastM_at hk (List.getElem?_eq_getElem hlb)]
    have hT := h.tries k _ _ (List.getElem?_eq_getElem hlb) (List.getElem?_eq_getElem hlt)
    have : isOpen ts th = decide (ts[k].f5 < 0) := by unfold isOpen; rw [hk]; simp [List.getElem?_eq_getElem hlt]
    rw [this]
    exact open_at w _ _ (hT.blk.cell 5 _ rfl)

def beginOk (ts : List Tr) (e : Ev) : Bool := !(isOpen ts e.f1 || !(e.f3 == (countOf e.f1 e.f2 ts : Int) + 1))

set_option maxHeartbeats 1600000 in
set_option maxRecDepth 100000 in
theorem begin_any (w : World) (base bb : Nat) (bs : List Nat) (ro : Nat → Value) (ts : List Tr) (rv : Value) (ml mc : Nat) (i : Int) (e : Ev) (hB : BookAt w base bb bs ro ts rv ml mc) (hl : ts.length ≤ 1000000000) (hbase : base ≤ w.heap.size) (he : EvOk e) :
    Calls Try.prog 90 #[.pointer (some ⟨bb, 0, none⟩), .int .i64 i, evV e] w
      fun ed w' => ed = .returned (.bool (beginOk ts e)) ∧ Below base w w' ∧ (beginOk ts e = true → ∃ bs' ro' rv', BookAt w' base bb bs' ro' (ts ++ [newTr i e]) rv' ml mc) := by
  obtain ⟨A, c, rfl, hrc, hrC⟩ := Kd.R_reads hB.row
  clear hrC
  have hcn : countOf e.f1 e.f2 ts ≤ 1000000000 := Nat.le_trans List.countP_le_length hl
  obtain ⟨n, hn⟩ : ∃ n, countOf e.f1 e.f2 ts = n := ⟨_, rfl⟩
  have hcm := countM_at ts e.f1 e.f2
  rw [hn] at hcn hcm
  unfold evV
  obtain ⟨v, hv⟩ : ∃ v, (lastM bs ts (.int .i64 e.f1)).getD (.pointer none) = v := ⟨_, rfl⟩
  have HB := Veil.mk hB
  have HE := Veil.mk he
  have HL := Veil.mk hl
  have HNB := Veil.mk hcn
  have HBs := Veil.mk hbase
  have HV := Veil.mk hv
  have HN := Veil.mk hn
  have HC := Veil.mk hcm
  have HW := Veil.mk (((Below.refl w.heap.size w).alloc (Nat.le_refl _) (.cells #[.int .i64 e.f0, .int .i64 e.f1, .int .i64 e.f2, .int .i64 e.f3, .int .i64 e.f4, .int .i64 e.f5, .int .i64 e.f6] 31)).alloc (by simp) (.cells #[.int .i64 e.f1, .int .i64 e.f2] 173))
  clear hB he hl hv hcm hn hcn hbase
  cases hop : isOpen ts e.f1 with
  | true =>
    have hOp := Veil.mk hop
    clear hop
    have HB1 := Veil.mk (HB.out.below HW.out)
    have hl1 := fun n => last_look (HB1.out.below (below_drewN n)).lastAt HE.out.w1
    rw [HV.out] at hl1
    have b1 := HB1.out.blk.cell 1 _ rfl
    have HO := fun n => (open_of (HB1.out.below (below_drewN n)) e.f1).mono (fun _ _ h => And.intro h.1 h.2.symm)
    rw [HV.out, hOp.out] at HO
    have HQ := Veil.mk HO
    clear HO
    go_enter Try.func90, Try.ntmps90
    go_wp2_with fail
    go_quiet (first | (go_at_call 91; exact Calls.quiet_of_same (HQ.out _)))
    go_wp2
    go_ret
    have hno : beginOk ts e = false := by unfold beginOk; rw [hOp.out]; rfl
    exact ⟨by rw [hno]; rfl, ((HW.out.mono HBs.out).drewN _), fun h => absurd h (by rw [hno]; decide)⟩
  | false =>
    have hOp := Veil.mk hop
    clear hop
    have HB1 := Veil.mk (HB.out.below HW.out)
    have hl1 := fun n => last_look (HB1.out.below (below_drewN n)).lastAt HE.out.w1
    rw [HV.out] at hl1
    have hl2 := fun n => count_look (HB1.out.below (below_drewN n)).countAt HE.out.w1 HE.out.w2
    rw [HC.out] at hl2
    have b1 := HB1.out.blk.cell 1 _ rfl
    have b2 := HB1.out.blk.cell 2 _ rfl
    have HO := fun n => (open_of (HB1.out.below (below_drewN n)) e.f1).mono (fun _ _ h => And.intro h.1 h.2.symm)
    rw [HV.out, hOp.out] at HO
    have HQ := Veil.mk HO
    clear HO
    have hw1 : IntKind.i64.wrap ((n : Int) + 1) = (n : Int) + 1 := IntWalk.i64_in _ (by have := HNB.out; omega)
    by_cases hat : e.f3 = (n : Int) + 1
    · have e3 : (e.f3 == (n : Int) + 1) = true := beq_iff_eq.2 hat
      clear hat
      go_enter Try.func90, Try.ntmps90
      go_wp2_with fail
      go_quiet (first | (go_at_call 91; exact Calls.quiet_of_same (HQ.out _)))
      have HEv := Veil.mk ((((Blk.new w #[.int .i64 e.f0, .int .i64 e.f1, .int .i64 e.f2, .int .i64 e.f3, .int .i64 e.f4, .int .i64 e.f5, .int .i64 e.f6] 31).alloc (.cells #[.int .i64 e.f1, .int .i64 e.f2] 173))).drewN nq)
      have HK := Veil.mk ((Blk.new (w.alloc (.cells #[.int .i64 e.f0, .int .i64 e.f1, .int .i64 e.f2, .int .i64 e.f3, .int .i64 e.f4, .int .i64 e.f5, .int .i64 e.f6] 31)) #[.int .i64 e.f1, .int .i64 e.f2] 173).drewN nq)
      have HB2 := Veil.mk (HB1.out.below (below_drewN nq))
      have HW2 := Veil.mk (HW.out.drewN nq)
      clear hl1 hl2 b1 b2 HQ HB1 HW hw1
      generalize ((w.alloc (.cells #[.int .i64 e.f0, .int .i64 e.f1, .int .i64 e.f2, .int .i64 e.f3, .int .i64 e.f4, .int .i64 e.f5, .int .i64 e.f6] 31)).alloc (.cells #[.int .i64 e.f1, .int .i64 e.f2] 173)).drewN nq = w1 at *
      have c1 := HEv.out.cell 1 _ rfl
      have c2 := HEv.out.cell 2 _ rfl
      have c3 := HEv.out.cell 3 _ rfl
      have c5 := HEv.out.cell 5 _ rfl
      have b0 := HB2.out.blk.cell 0 _ rfl
      have b0' := fun o => alloc_cell b0 o
      have hrlt : Veil (∀ k, (Value.slice A bs.length c).ownBlock = some k → k < w.heap.size) := ⟨fun k hk => by obtain ⟨inner, ho⟩ := Kd.R_own HB.out.row; exact own_lt ho k hk⟩
      have hk1 : (w.alloc (.cells #[.int .i64 e.f0, .int .i64 e.f1, .int .i64 e.f2, .int .i64 e.f3, .int .i64 e.f4, .int .i64 e.f5, .int .i64 e.f6] 31)).heap.size = w.heap.size + 1 := by simp
      rw [hk1] at HK
      clear hk1
      have hb1 : base ≤ w1.heap.size := Nat.le_trans HBs.out HW2.out.size
      have hbl : (bs.length + 1) * 8 ≤ 140737488355328 := by have := HL.out; have := HB.out.len; omega
      have HA := Veil.mk (And.intro (Kd.R_below HB2.out.row ((Below.refl _ _).alloc (Nat.le_refl _) (.cells #[.int .i64 e.f1, .int .i64 e.f2, .int .i64 e.f3, .int .i64 e.f5, .int .i64 i, .int .i64 (-1), .int .i64 0, .bool false, .slice none 0 0] 29))) (And.intro ((Below.refl base w1).alloc hb1 (.cells #[.int .i64 e.f1, .int .i64 e.f2, .int .i64 e.f3, .int .i64 e.f5, .int .i64 i, .int .i64 (-1), .int .i64 0, .bool false, .slice none 0 0] 29)) (And.intro (Nat.le_trans hb1 (Nat.le_trans (Nat.le_refl _) (by simp) : w1.heap.size ≤ (w1.alloc (.cells #[.int .i64 e.f1, .int .i64 e.f2, .int .i64 e.f3, .int .i64 e.f5, .int .i64 i, .int .i64 (-1), .int .i64 0, .bool false, .slice none 0 0] 29)).heap.size)) hbl)))
      clear hb1 hbl
      go_wp2_with (first | ((with_reducible refine gate_builtin (b := .append) (xs := #[.tmp 49, .tmp 51]) rfl ?_); at_builtin; go_must (refine Kd.R_append kPtr base (w0 := w1) rfl (.tmp 49) (.tmp 51) 122 85 (.pointer none) 8 rfl Try.underlying122 info85 rfl (Nat.le_refl 1) (Nat.succ_pos 7) (.slice A bs.length c) bs w1.heap.size _ (fun _ => True) (fun _ => False) rfl ?hx rfl (fun _ h => h.elim) (fun _ _ => trivial) HA.out.1 HA.out.2.1 HA.out.2.2.1 HA.out.2.2.2 ?_); go_must (case hx => go_simp); go_must (intro v1 w3 hR hB hg hat; clear c1 c2 c3 c5 b0 b0'; have BC := Veil.mk (begin_cells hrlt.out HW2.out HB2.out hg HEv.out HK.out); have HR3 := Veil.mk hR; have hl3 := Kd.R_reads hR; obtain ⟨A1, c1, rfl, hc1, hC1⟩ := hl3; clear hR hB hg hat hc1 hC1; have b0 := BC.out.1.cell 0 _ rfl; have f0 := BC.out.1.free 0)))
      have D4 := begin_store HB2.out BC.out.1 BC.out.2.1 BC.out.2.2.1 BC.out.2.2.2.2.1 BC.out.2.2.2.2.2.1 (v := .slice A1 (bs.length + 1) c1)
      have HU4 := Veil.mk ((Upd.refl (fun k => k = bb ∨ k = ml ∨ k = mc) w3).setCell (p := ⟨bb, 0, none⟩) (fun _ => .inl rfl) (.slice A1 (bs.length + 1) c1))
      generalize w3.setCell ⟨bb, 0, none⟩ (.slice A1 (bs.length + 1) c1) = w4 at *
      have DD := Veil.mk D4
      clear D4 b0 f0
      have hrl := run_entry (z := .pointer none) keyed_thread Try.underlying120 (by intro u; go_simp) (keyOf_thread HE.out.w1) (DD.out.last.same (w' := w4.drew) rfl)
      obtain ⟨v0, st0, o1, hrun1, hst1⟩ := hrl
      have HS1 := Veil.mk hst1
      clear hst1
      refine wp_region_X (fun w' => w'.cell? ⟨bb, 1, none⟩ = some (.map (some ml)) ∧ w'.cell? ⟨bb, 2, none⟩ = some (.map (some mc)) ∧ w'.cell? ⟨w.heap.size, 1, none⟩ = some (.int .i64 e.f1) ∧
        w'.cell? ⟨w.heap.size, 3, none⟩ = some (.int .i64 e.f3) ∧ w'.cell? ⟨w.heap.size + 1, 0, none⟩ = some (.int .i64 e.f1) ∧ w'.cell? ⟨w.heap.size + 1, 1, none⟩ = some (.int .i64 e.f2)) [] (by kernel_rfl) ?_
      have hS0 := begin_S DD.out.blk DD.out.ev DD.out.kv
      refine wpAnyX_take (i := 0) (v := ?_) rfl (by kernel_rfl) (by kernel_rfl) (by kernel_rfl) (by kernel_rfl) (fun _ _ _ h => h) (Or.inl ⟨by rfl, ?_⟩) (by assumption) ?_
      rotate_left 1
      · intro w hSw; (try dsimp only at hSw); go_split_ands; (first | (go_simp; done) | (go_simp; with_reducible rfl))
      try simp only [Act.put, List.setIfInBounds_toArray, List.set_cons_zero, List.set_cons_succ]
      refine wpAnyX_take (i := 1) (v := ?_) rfl (by kernel_rfl) (by kernel_rfl) (by kernel_rfl) (by kernel_rfl) (fun _ _ _ h => h) (Or.inl ⟨by rfl, ?_⟩) (by assumption) ?_
      rotate_left 1
      · intro w hSw; (try dsimp only at hSw); go_split_ands; (first | (go_simp; done) | (go_simp; with_reducible rfl))
      try simp only [Act.put, List.setIfInBounds_toArray, List.set_cons_zero, List.set_cons_succ]
      refine wpAnyX_take (i := 2) (v := ?_) rfl (by kernel_rfl) (by kernel_rfl) (by kernel_rfl) (by kernel_rfl) (fun _ _ _ h => h) (Or.inl ⟨by rfl, ?_⟩) (by assumption) ?_
      rotate_left 1
      · intro w hSw; (try dsimp only at hSw); go_split_ands; (first | (go_simp; done) | (go_simp; with_reducible rfl))
      try simp only [Act.put, List.setIfInBounds_toArray, List.set_cons_zero, List.set_cons_succ]
      refine wpAnyX_take (i := 3) (v := ?_) rfl (by kernel_rfl) (by kernel_rfl) (by kernel_rfl) (by kernel_rfl) (fun _ _ _ h => h) (Or.inl ⟨by rfl, ?_⟩) (by assumption) ?_
      rotate_left 1
      · intro w hSw; (try dsimp only at hSw); go_split_ands; (first | (go_simp; done) | (go_simp; with_reducible rfl))
      try simp only [Act.put, List.setIfInBounds_toArray, List.set_cons_zero, List.set_cons_succ]
      refine wpAnyX_take (i := 4) (v := ?_) rfl (by kernel_rfl) (by kernel_rfl) (by kernel_rfl) (by kernel_rfl) (fun _ _ _ h => h) (Or.inl ⟨by rfl, ?_⟩) (by assumption) ?_
      rotate_left 1
      · intro w hSw; (try dsimp only at hSw); go_split_ands; (first | (go_simp; done) | (go_simp; with_reducible rfl))
      try simp only [Act.put, List.setIfInBounds_toArray, List.set_cons_zero, List.set_cons_succ]
      refine wpAnyX_take (i := 5) (v := ?_) rfl (by kernel_rfl) (by kernel_rfl) (by kernel_rfl) (by kernel_rfl) (fun _ _ _ h => h) (Or.inl ⟨by rfl, ?_⟩) (by assumption) ?_
      rotate_left 1
      · intro w hSw; (try dsimp only at hSw); go_split_ands; (first | (go_simp; done) | (go_simp; with_reducible rfl))
      try simp only [Act.put, List.setIfInBounds_toArray, List.set_cons_zero, List.set_cons_succ]
      refine wpAnyX_take (i := 6) (v := ?_) rfl (by kernel_rfl) (by kernel_rfl) (by kernel_rfl) (by kernel_rfl) (fun _ _ _ h => h) (Or.inl ⟨by rfl, ?_⟩) (by assumption) ?_
      rotate_left 1
      · intro w hSw; (try dsimp only at hSw); go_split_ands; (first | (go_simp; done) | (go_simp; with_reducible rfl))
      try simp only [Act.put, List.setIfInBounds_toArray, List.set_cons_zero, List.set_cons_succ]
      refine wpAnyX_take (i := 7) (v := ?_) rfl (by kernel_rfl) (by kernel_rfl) (by kernel_rfl) (by kernel_rfl) (fun _ _ _ h => h) (Or.inl ⟨by rfl, ?_⟩) (by assumption) ?_
      rotate_left 1
      · intro w hSw; (try dsimp only at hSw); go_split_ands; (first | (go_simp; done) | (go_simp; with_reducible rfl))
      try simp only [Act.put, List.setIfInBounds_toArray, List.set_cons_zero, List.set_cons_succ]
      refine wpAnyX_take (i := 8) (v := ?_) rfl (by kernel_rfl) (by kernel_rfl) (by kernel_rfl) (by kernel_rfl) (fun _ _ _ h => h) (Or.inl ⟨by rfl, ?_⟩) (by assumption) ?_
      rotate_left 1
      · intro w hSw; (try dsimp only at hSw); go_split_ands; (first | (go_simp; done) | (go_simp; with_reducible rfl))
      try simp only [Act.put, List.setIfInBounds_toArray, List.set_cons_zero, List.set_cons_succ]
      refine wpAnyX_take (i := 9) (v := ?_) rfl (by kernel_rfl) (by kernel_rfl) (by kernel_rfl) (by kernel_rfl) (fun _ _ _ h => h) (Or.inl ⟨by rfl, ?_⟩) (by assumption) ?_
      rotate_left 1
      · intro w hSw; (try dsimp only at hSw); go_split_ands; (first | (go_simp; done) | (go_simp; with_reducible rfl))
      try simp only [Act.put, List.setIfInBounds_toArray, List.set_cons_zero, List.set_cons_succ]
      refine wpAnyX_take (i := 10) (v := ?_) rfl (by kernel_rfl) (by kernel_rfl) (by kernel_rfl) (by kernel_rfl) (fun _ _ _ h => h) (Or.inl ⟨by rfl, ?_⟩) (by assumption) ?_
      rotate_left 1
      · intro w hSw; (try dsimp only at hSw); go_split_ands; (first | (go_simp; done) | (go_simp; with_reducible rfl))
      try simp only [Act.put, List.setIfInBounds_toArray, List.set_cons_zero, List.set_cons_succ]
      refine wpAnyX_take (i := 11) (v := ?_) rfl (by kernel_rfl) (by kernel_rfl) (by kernel_rfl) (by kernel_rfl) (fun _ _ _ h => h) (Or.inl ⟨by rfl, ?_⟩) (by assumption) ?_
      rotate_left 1
      · intro w hSw; (try dsimp only at hSw); go_split_ands; (first | (go_simp; done) | (go_simp; with_reducible rfl))
      try simp only [Act.put, List.setIfInBounds_toArray, List.set_cons_zero, List.set_cons_succ]
      refine wpAnyX_take (i := 12) (v := ?_) rfl (by kernel_rfl) (by kernel_rfl) (by kernel_rfl) (by kernel_rfl) (fun _ _ _ h => h) (Or.inl ⟨by rfl, ?_⟩) (by assumption) ?_
      rotate_left 1
      · intro w hSw; (try dsimp only at hSw); go_split_ands; (first | (go_simp; done) | (go_simp; with_reducible rfl))
      try simp only [Act.put, List.setIfInBounds_toArray, List.set_cons_zero, List.set_cons_succ]
      refine wpAnyX_take (i := 13) (v := ?_) rfl (by kernel_rfl) (by kernel_rfl) (by kernel_rfl) (by kernel_rfl) (fun _ _ _ h => h) (Or.inl ⟨by rfl, ?_⟩) (by assumption) ?_
      rotate_left 1
      · intro w hSw; (try dsimp only at hSw); go_split_ands; (first | (go_simp; done) | (go_simp; with_reducible rfl))
      try simp only [Act.put, List.setIfInBounds_toArray, List.set_cons_zero, List.set_cons_succ]
      clear hS0
      refine wpAnyX_one (i := 14) (by kernel_rfl) rfl (fun K hK => ?_)
      go_simp
      have DB := Veil.mk (And.intro (blk_setBlock (o := o1) DD.out.blk (DD.out.last.not_blk DD.out.blk).symm) (And.intro (blk_setBlock (o := o1) DD.out.ev (DD.out.last.not_blk DD.out.ev).symm) (And.intro (blk_setBlock (o := o1) DD.out.kv (DD.out.last.not_blk DD.out.kv).symm) (setBlock_get (w := w4.drew) DD.out.last.lt o1))))
      have HS5 := Veil.mk (begin_S DB.out.1 DB.out.2.1 DB.out.2.2.1)
      refine hK.out _ _ (fun _ => HS5.out) ?_
      clear hK K
      refine wpAnyX_one (i := 15) (by kernel_rfl) rfl (fun K hK => ?_)
      go_simp
      refine hK.out _ _ (fun _ => HS5.out) ?_
      clear hK K
      have hst1 := HS1.out (setBlock w4.drew ml o1) (.pointer (some ⟨w1.heap.size, 0, none⟩)) DB.out.2.2.2
      obtain ⟨o2, hrun2, hmap2⟩ := hst1
      have D6 := Veil.mk (BeginAt.set2 DD.out HB.out.maps o1 o2 hmap2)
      have HS6 := Veil.mk (begin_S D6.out.blk D6.out.ev D6.out.kv)
      clear hrun1 hmap2
      refine wpAnyX_one (i := 16) (by kernel_rfl) rfl (fun K hK => ?_)
      go_simp
      refine hK.out _ _ (fun _ => HS6.out) ?_
      clear hK K hrun2
      have HU6 := Veil.mk (upd_setBlock (upd_setBlock ((Upd.refl (fun k => k = bb ∨ k = ml ∨ k = mc) w4).drew) (b := ml) (fun _ => .inr (.inl rfl)) o1) (b := ml) (fun _ => .inr (.inl rfl)) o2)
      generalize setBlock (setBlock w4.drew ml o1) ml o2 = w6 at *
      have hrl := run_entry (z := .int .i64 0) keyed_key Try.underlying121 (by intro u; go_simp) (keyOf_key HE.out.w1 HE.out.w2) D6.out.count
      obtain ⟨v2, st2, o3, hrun3, hst3⟩ := hrl
      have HS3 := Veil.mk hst3
      clear hst3 DB HS5
      refine wpAnyX_one (i := 17) (by kernel_rfl) rfl (fun K hK => ?_)
      go_simp
      have DB := Veil.mk (And.intro (blk_setBlock (o := o3) D6.out.blk (D6.out.count.not_blk D6.out.blk).symm) (And.intro (blk_setBlock (o := o3) D6.out.ev (D6.out.count.not_blk D6.out.ev).symm) (And.intro (blk_setBlock (o := o3) D6.out.kv (D6.out.count.not_blk D6.out.kv).symm) (setBlock_get (w := w6) D6.out.count.lt o3))))
      have HS7 := Veil.mk (begin_S DB.out.1 DB.out.2.1 DB.out.2.2.1)
      refine hK.out _ _ (fun _ => HS7.out) ?_
      clear hK K
      refine wpAnyX_one (i := 18) (by kernel_rfl) rfl (fun K hK => ?_)
      go_simp
      refine hK.out _ _ (fun _ => HS7.out) ?_
      clear hK K
      have hst3 := HS3.out (setBlock w6 mc o3) (.int .i64 e.f3) DB.out.2.2.2
      obtain ⟨o4, hrun4, hmap4⟩ := hst3
      have D8 := Veil.mk (BeginAt.set3 D6.out HB.out.maps o3 o4 hmap4)
      have HS8 := Veil.mk (begin_S D8.out.blk D8.out.ev D8.out.kv)
      have HU8 := Veil.mk (upd_setBlock (upd_setBlock (HU4.out.trans HU6.out) (b := mc) (fun _ => .inr (.inr rfl)) o3) (b := mc) (fun _ => .inr (.inr rfl)) o4)
      clear hrun3 hmap4
      refine wpAnyX_one (i := 19) (by kernel_rfl) rfl (fun K hK => ?_)
      go_simp
      refine hK.out _ _ (fun _ => HS8.out) ?_
      clear hK K hrun4
      generalize setBlock (setBlock w6 mc o3) mc o4 = w8 at *
      refine wpAnyX_done (by kernel_rfl) ?_ _
      go_wp2
      go_ret
      have hyes : beginOk ts e = true := by unfold beginOk; rw [hOp.out, HN.out, e3]; rfl
      refine ⟨by rw [hyes]; rfl, ?_, fun _ => ⟨bs ++ [w1.heap.size], _, .slice A1 (bs.length + 1) c1, begin_close (tb := w1.heap.size) (i := i) (e := e) HB.out HBs.out ((Upd.ofBelow HW2.out _).trans BC.out.2.2.2.2.2.2) ?_ ?_ HW2.out.size HU8.out D8.out.blk D8.out.last ?_⟩⟩
      · exact ((((Upd.ofBelow HW2.out _).trans BC.out.2.2.2.2.2.2).trans' HU8.out (S'' := fun k => base ≤ k) (fun k _ hk => by obtain ⟨inner, ho⟩ := Kd.R_own HB.out.row; exact own_base ho k hk) (fun k _ hk => by
          rcases hk with rfl | rfl | rfl
          · exact HB.out.low
          · exact HB.out.lowl
          · exact HB.out.lowc))).below HBs.out (fun k hk => by omega)
      · have := HR3.out
        rw [show (bs ++ [w1.heap.size]).length = bs.length + 1 from by simp] at this
        exact this
      · exact BC.out.2.2.2.1
      · have := D8.out.count
        rw [beq_iff_eq.1 e3] at this
        rw [HN.out]
        exact this
    · have e3 : (e.f3 == (n : Int) + 1) = false := beq_eq_false_iff_ne.2 hat
      clear hat
      go_enter Try.func90, Try.ntmps90
      go_wp2_with fail
      go_quiet (first | (go_at_call 91; exact Calls.quiet_of_same (HQ.out _)))
      go_wp2
      go_ret
      have hno : beginOk ts e = false := by unfold beginOk; rw [hOp.out, HN.out, e3]; rfl
      exact ⟨by rw [hno]; rfl, ((HW.out.mono HBs.out).drewN _), fun h => absurd h (by rw [hno]; decide)⟩
end Go.Proofs.Ytjmnbbflahacoaa.Hist
/- hist, seventh part: an event. No condition. -/
namespace Go.Proofs.Ytjmnbbflahacoaa.Hist
open Go.RowKit Go.ChangeMaps Go.Maps Go.Proofs.Ytjmnbbflahacoaa.Mem Go.Proofs.Ytjmnbbflahacoaa.PHistTells Go.Proofs.YtjmnbbflahacoaaW.PrintWords
set_option linter.unusedVariables false
set_option linter.unusedSimpArgs false

theorem map_set_same {α β : Type} (f : α → β) (l : List α) (k : Nat) (x y : α) (hk : l[k]? = some x) (h : f y = f x) : (l.set k y).map f = l.map f := by
  rw [List.map_set, h]
  apply List.ext_getElem?
  intro j
  rw [List.getElem?_set]
  split
  · rename_i e
    subst e
    have := (List.getElem?_eq_some_iff.1 hk).1
    rw [if_pos (by simpa using this), List.getElem?_map, hk]
    rfl
  · rfl
theorem lastOf_set (th : Int) (ts : List Tr) (k : Nat) (t t' : Tr) (hk : ts[k]? = some t) (h : t'.f0 = t.f0) : lastOf th (ts.set k t') = lastOf th ts := by
  unfold lastOf
  rw [map_set_same _ ts k t t' hk h]
theorem countOf_set (th tx : Int) (ts : List Tr) (k : Nat) (t t' : Tr) (hk : ts[k]? = some t) (h0 : t'.f0 = t.f0) (h1 : t'.f1 = t.f1) : countOf th tx (ts.set k t') = countOf th tx ts := by
  unfold countOf
  have key : ∀ l : List Tr, l.countP (fun t => t.f0 == th && t.f1 == tx) = (l.map (fun t => t.f0 == th && t.f1 == tx)).countP id := fun l => by rw [List.countP_map]; rfl
  rw [key, key, map_set_same _ ts k t t' hk (by rw [h0, h1])]

/-- One of the book's tries has turned. -/
theorem BookAt.turn {w w' : World} {base bb : Nat} {bs : List Nat} {ro : Nat → Value} {ts : List Tr} {rv : Value} {ml mc : Nat} (h : BookAt w base bb bs ro ts rv ml mc) {k b : Nat} {t t' : Tr} {row' : Value} (hkb : bs[k]? = some b) (hkt : ts[k]? = some t)
    (hT : TryAt w' base b t' row') (hu : Upd (fun j => j = b ∨ (ro b).ownBlock = some j) w w') (hr : row'.ownBlock = (ro b).ownBlock ∨ ∃ j, row'.ownBlock = some j ∧ w.heap.size ≤ j) (h0 : t'.f0 = t.f0) (h1 : t'.f1 = t.f1) :
    BookAt w' base bb bs (fun x => if x = b then row' else ro x) (ts.set k t') rv ml mc := by
  have hTb := h.tries k b t hkb hkt
  have hST : ∀ j T, (j = b ∨ (ro b).ownBlock = some j) → Typed w j T → T = 29 ∨ T = 33 := by
    rintro j T (rfl | hj) hty
    · exact .inl (hty.ne (blk_typed hTb.blk))
    · exact .inr (hty.ne (row_typed hTb.acc hj))
  have hSM : ∀ j (K : TypeId) (m : Value → Option Value), (j = b ∨ (ro b).ownBlock = some j) → ¬ MapAt Try.prog K w j m := by
    rintro j K m (rfl | hj) hm
    · exact (blk_typed hTb.blk).not_map hm
    · exact (row_typed hTb.acc hj).not_map hm
  have hbl : ∀ b', b' ∈ bs → b' < w.heap.size ∧ (∀ j, (ro b').ownBlock = some j → j < w.heap.size) := fun b' hb => by
    obtain ⟨k', hk'⟩ := List.getElem?_of_mem hb
    have hlt : k' < ts.length := by rw [← h.len]; exact (List.getElem?_eq_some_iff.1 hk').1
    have := h.tries k' b' _ hk' (List.getElem?_eq_getElem hlt)
    exact ⟨this.blk.lt, fun j hj => row_lt this hj⟩
  have hmem : b ∈ bs := List.mem_of_getElem? hkb
  refine ⟨h.blk.upd hu (fun hs => by rcases hST _ _ hs (blk_typed h.blk) with e | e <;> exact absurd e (by decide)), h.low, ?_, by rw [List.length_set]; exact h.len, ?_, h.nodup, ?_, ?_, ?_, h.lowl, h.lowc, h.maps⟩
  · refine Kd.R_mono (Kd.R_step (Kd.R_tight (by rfl) h.row) (fun j hj hlt => hu.block j hlt (fun hs => ?_))) (fun _ _ => trivial)
    rcases hST _ _ hs (row_typed h.row hj.symm) with e | e <;> exact absurd e (by decide)
  · intro k' b' u hb' hu'
    by_cases e : k' = k
    · subst e
      have hlt := (List.getElem?_eq_some_iff.1 hkt).1
      rw [hkb] at hb'
      rw [List.getElem?_set_self hlt] at hu'
      injection hb' with hb'
      injection hu' with hu'
      subst hb' hu'
      rw [if_pos rfl]
      exact hT
    · rw [List.getElem?_set_ne (Ne.symm e)] at hu'
      have hne : b' ≠ b := by
        rintro rfl
        obtain ⟨p1, p2⟩ := List.getElem?_eq_some_iff.1 hb'
        obtain ⟨q1, q2⟩ := List.getElem?_eq_some_iff.1 hkb
        exact e ((List.getElem_inj h.nodup).1 (p2.trans q2.symm))
      rw [if_neg hne]
      have hT' := h.tries k' b' u hb' hu'
      refine hT'.upd hu ?_ ?_
      · rintro (hs | hs)
        · exact hne hs
        · exact absurd ((blk_typed hT'.blk).ne (row_typed hTb.acc hs)) (by decide)
      · intro j hj
        rintro (hs | hs)
        · subst hs
          exact absurd ((blk_typed hTb.blk).ne (row_typed hT'.acc hj)) (by decide)
        · exact h.apart b' b (List.mem_of_getElem? hb') hmem hne j hj hs
  · intro b1 b2 hb1 hb2 hne j hj
    by_cases e1 : b1 = b
    · subst e1
      rw [if_pos rfl] at hj
      have e2 : b2 ≠ b1 := Ne.symm hne
      rw [if_neg e2]
      rcases hr with hr | ⟨j', hr, hge⟩
      · rw [hr] at hj
        exact h.apart b1 b2 hb1 hb2 hne j hj
      · rw [hr] at hj
        injection hj with hj
        subst hj
        intro hj2
        have := (hbl b2 hb2).2 _ hj2
        omega
    · rw [if_neg e1] at hj
      by_cases e2 : b2 = b
      · subst e2
        rw [if_pos rfl]
        rcases hr with hr | ⟨j', hr, hge⟩
        · rw [hr]
          exact h.apart b1 b2 hb1 hb2 hne j hj
        · rw [hr]
          intro hj2
          injection hj2 with hj2
          have := (hbl b1 hb1).2 _ hj
          omega
      · rw [if_neg e2]
        exact h.apart b1 b2 hb1 hb2 hne j hj
  · refine (h.lastAt.upd hu (fun hs => hSM _ _ _ hs h.lastAt)).ext (fun x => ?_)
    unfold lastM
    cases key1 x with
    | none => rfl
    | some th =>
      simp only [Option.bind_some]
      rw [lastOf_set th ts k t t' hkt h0]
  · refine (h.countAt.upd hu (fun hs => hSM _ _ _ hs h.countAt)).ext (fun x => ?_)
    unfold countM
    cases key2 x with
    | none => rfl
    | some p =>
      simp only [Option.bind_some]
      rw [countOf_set _ _ ts k t t' hkt h0 h1]

theorem stepM_begin {ts : List Tr} {i : Int} {e : Ev} (h1 : (e.f0 == 1) = true) : stepM ts i e = if beginOk ts e then some (ts ++ [newTr i e]) else none := by
  unfold stepM beginOk
  rw [if_pos h1]
  cases (isOpen ts e.f1 || !(e.f3 == (countOf e.f1 e.f2 ts : Int) + 1)) <;> rfl
theorem stepM_refuse {ts : List Tr} {i : Int} {e : Ev} (h1 : (e.f0 == 1) = false) (h7 : (e.f0 == 7) = true) : stepM ts i e = if isOpen ts e.f1 then none else some ts := by
  unfold stepM
  rw [if_neg (by simp [h1]), if_pos h7]
theorem stepM_shut {ts : List Tr} {i : Int} {e : Ev} (h1 : (e.f0 == 1) = false) (h7 : (e.f0 == 7) = false) (ho : isOpen ts e.f1 = false) : stepM ts i e = none := by
  unfold stepM
  rw [if_neg (by simp [h1]), if_neg (by simp [h7])]
  unfold isOpen at ho
  cases hl : lastOf e.f1 ts with
  | none => rfl
  | some k =>
    rw [hl] at ho
    cases ht : ts[k]? with
    | none => simp [ht]
    | some t =>
      simp only [ht] at ho ⊢
      rw [ho]; rfl
theorem isOpen_of {ts : List Tr} {th : Int} (ho : isOpen ts th = true) : ∃ k t, lastOf th ts = some k ∧ ts[k]? = some t ∧ t.f5 < 0 ∧ t.f0 = th := by
  unfold isOpen at ho
  cases hl : lastOf th ts with
  | none => rw [hl] at ho; cases ho
  | some k =>
    rw [hl] at ho
    cases ht : ts[k]? with
    | none => simp [ht] at ho
    | some t =>
      simp only [ht, decide_eq_true_eq] at ho
      have := (lastIx_spec th _ k hl).1
      rw [List.getElem?_map, ht] at this
      simp at this
      exact ⟨k, t, rfl, ht, ho, this⟩
theorem stepM_open {ts : List Tr} {i : Int} {e : Ev} (h1 : (e.f0 == 1) = false) (h7 : (e.f0 == 7) = false) {k : Nat} {t : Tr} (hl : lastOf e.f1 ts = some k) (ht : ts[k]? = some t) (ho : t.f5 < 0) :
    stepM ts i e = if t.f1 == e.f2 && t.f2 == e.f3 then (turnTr t i e).map (ts.set k) else none := by
  unfold stepM
  rw [if_neg (by simp [h1]), if_neg (by simp [h7]), hl]
  simp only [ht, ho, decide_true, Bool.true_and]
end Go.Proofs.Ytjmnbbflahacoaa.Hist
/- hist, eighth part: an event's walk. No condition. -/
namespace Go.Proofs.Ytjmnbbflahacoaa.Hist
open Go.RowKit Go.ChangeMaps Go.Maps Go.Proofs.Ytjmnbbflahacoaa.Mem Go.Proofs.Ytjmnbbflahacoaa.PHistTells Go.Proofs.YtjmnbbflahacoaaW.PrintWords
set_option linter.unusedVariables false
set_option linter.unusedSimpArgs false

/-- What an event leaves. -/
def EventPost (w : World) (base bb : Nat) (ts : List Tr) (ml mc : Nat) (i : Int) (e : Ev) (ed : Ending) (w' : World) : Prop :=
  ed = .returned (.bool (stepM ts i e).isSome) ∧ Below base w w' ∧ ∀ ts', stepM ts i e = some ts' → ∃ bs' ro' rv', BookAt w' base bb bs' ro' ts' rv' ml mc

theorem eventPost_none {w w' : World} {base bb : Nat} {ts : List Tr} {ml mc : Nat} {i : Int} {e : Ev} {x : Value} (hx : x = .bool false) (hb : Below base w w') (hs : stepM ts i e = none) : EventPost w base bb ts ml mc i e (.returned x) w' :=
  ⟨by rw [hs, hx]; rfl, hb, fun ts' h => by rw [hs] at h; cases h⟩
theorem eventPost_some {w w' : World} {base bb : Nat} {ts ts' : List Tr} {ml mc : Nat} {i : Int} {e : Ev} {x : Value} (hx : x = .bool true) (hb : Below base w w') (hs : stepM ts i e = some ts') {bs' : List Nat} {ro' : Nat → Value} {rv' : Value} (hB : BookAt w' base bb bs' ro' ts' rv' ml mc) : EventPost w base bb ts ml mc i e (.returned x) w' :=
  ⟨by rw [hs, hx]; rfl, hb, fun ts'' h => by rw [hs] at h; injection h with h; subst h; exact ⟨_, _, _, hB⟩⟩

/-- What is there behind event's look-up. -/
structure EventAt (w w1 : World) (base bb : Nat) (bs : List Nat) (ro : Nat → Value) (ts : List Tr) (rv : Value) (ml mc : Nat) (e : Ev) : Prop where
  ev : Blk w1 w.heap.size 31 (evC e)
  book : BookAt w1 base bb bs ro ts rv ml mc
  below : Below w.heap.size w w1
  base : base ≤ w.heap.size
theorem EventAt.drewN {w w1 : World} {base bb : Nat} {bs : List Nat} {ro : Nat → Value} {ts : List Tr} {rv : Value} {ml mc : Nat} {e : Ev} (h : EventAt w w1 base bb bs ro ts rv ml mc e) (n : Nat) : EventAt w (w1.drewN n) base bb bs ro ts rv ml mc e :=
  ⟨h.ev.drewN n, h.book.below (below_drewN n), h.below.drewN n, h.base⟩

theorem event_turned {w w2 w3 : World} {base bb : Nat} {bs : List Nat} {ro : Nat → Value} {ts : List Tr} {rv : Value} {ml mc : Nat} {i : Int} {e : Ev} (HA : EventAt w w2 base bb bs ro ts rv ml mc e) {k b : Nat} {t t' : Tr} {row' x : Value} (hkb : bs[k]? = some b) (hkt : ts[k]? = some t)
    (hT : TryAt w3 base b t' row') (hu : Upd (fun j => j = b ∨ (ro b).ownBlock = some j) w2 w3) (hr : row'.ownBlock = (ro b).ownBlock ∨ ∃ j, row'.ownBlock = some j ∧ w2.heap.size ≤ j) (h0 : t'.f0 = t.f0) (h1 : t'.f1 = t.f1)
    (hs : stepM ts i e = some (ts.set k t')) (hx : x = .bool true) : EventPost w base bb ts ml mc i e (.returned x) w3 := by
  have hTb := HA.book.tries k b t hkb hkt
  refine eventPost_some hx ((HA.below.mono HA.base).trans (hu.below (Nat.le_trans HA.base HA.below.size) (fun j hj hS => ?_))) hs (HA.book.turn hkb hkt hT hu hr h0 h1)
  rcases hS with rfl | hS
  · have := hTb.low; omega
  · obtain ⟨inner, ho⟩ := Kd.R_own hTb.acc
    have := own_base ho j hS
    omega
theorem TryAt.put {w : World} {base b : Nat} {t t' : Tr} {row : Value} (h : TryAt w base b t row) (o : Nat) (v : Value) (hc : (trC t row).set o v = trC t' row) (h8 : t'.f8 = t.f8) : TryAt (w.setCell ⟨b, o, none⟩ v) base b t' row := by
  have hn := not_row h
  refine ⟨hc ▸ h.blk.set o v, h.low, ?_⟩
  rw [h8]
  exact Kd.R_mono (Kd.R_far (p := ⟨b, o, none⟩) (Kd.R_tight (by rfl) h.acc) (fun k hk he => hn (by rw [← hk]; exact congrArg some he.symm)) _) (fun _ _ => trivial)

set_option maxHeartbeats 1600000 in
set_option maxRecDepth 100000 in
theorem event_any (w : World) (base bb : Nat) (bs : List Nat) (ro : Nat → Value) (ts : List Tr) (rv : Value) (ml mc : Nat) (i : Int) (e : Ev) (hB : BookAt w base bb bs ro ts rv ml mc) (hl : ts.length ≤ 1000000000) (hacc : ∀ t ∈ ts, t.f8.length ≤ 1000000000) (hbase : base ≤ w.heap.size) (he : EvOk e) :
    Calls Try.prog 74 #[.pointer (some ⟨bb, 0, none⟩), .int .i64 i, evV e] w (EventPost w base bb ts ml mc i e) := by
  have HA0 : Veil (EventAt w (w.alloc (.cells #[.int .i64 e.f0, .int .i64 e.f1, .int .i64 e.f2, .int .i64 e.f3, .int .i64 e.f4, .int .i64 e.f5, .int .i64 e.f6] 31)) base bb bs ro ts rv ml mc e) :=
    ⟨⟨Blk.new w _ _, hB.below ((Below.refl _ _).alloc (Nat.le_refl _) _), (Below.refl _ _).alloc (Nat.le_refl _) _, hbase⟩⟩
  obtain ⟨v, hv⟩ : ∃ v, (lastM bs ts (.int .i64 e.f1)).getD (.pointer none) = v := ⟨_, rfl⟩
  have hl1 := fun n => last_look (HA0.out.book.below (below_drewN n)).lastAt he.w1
  rw [hv] at hl1
  have b1 := HA0.out.book.blk.cell 1 _ rfl
  have HL := Veil.mk hl
  have HAC := Veil.mk hacc
  have HE := Veil.mk he
  have HV := Veil.mk hv
  clear hB hl hacc hbase he hv
  unfold evV
  go_enter Try.func74, Try.ntmps74
  go_wp2_with fail
  go_quiet (fail)
  have HA1 := Veil.mk (HA0.out.drewN nq)
  clear hl1 b1 HA0
  generalize (w.alloc (.cells #[.int .i64 e.f0, .int .i64 e.f1, .int .i64 e.f2, .int .i64 e.f3, .int .i64 e.f4, .int .i64 e.f5, .int .i64 e.f6] 31)).drewN nq = w1 at *
  have c0 := HA1.out.ev.cell 0 _ rfl
  have c1 := HA1.out.ev.cell 1 _ rfl
  have c2 := HA1.out.ev.cell 2 _ rfl
  have c3 := HA1.out.ev.cell 3 _ rfl
  have c4 := HA1.out.ev.cell 4 _ rfl
  have c5 := HA1.out.ev.cell 5 _ rfl
  have c6 := HA1.out.ev.cell 6 _ rfl
  cases h1 : (e.f0 == 1) with
  | true =>
    have H1 := Veil.mk h1
    go_wp2_with (first | (go_at_call 90; go_must (refine (begin_any w1 base bb bs ro ts rv ml mc i e HA1.out.book HL.out (Nat.le_trans HA1.out.base HA1.out.below.size) HE.out).mono ?_; rintro ed w2 ⟨rfl, hbw, hbook⟩; have HBW := Veil.mk hbw; have HBK := Veil.mk hbook; clear hbw hbook)))
    go_ret
    have hs := stepM_begin (ts := ts) (i := i) H1.out
    cases hok : beginOk ts e with
    | true =>
      rw [hok, if_pos rfl] at hs
      obtain ⟨bs', ro', rv', hb⟩ := HBK.out hok
      exact eventPost_some rfl ((HA1.out.below.mono HA1.out.base).trans HBW.out) hs hb
    | false =>
      rw [hok, if_neg (by decide)] at hs
      exact eventPost_none rfl ((HA1.out.below.mono HA1.out.base).trans HBW.out) hs
  | false =>
    have H1 := Veil.mk h1
    cases h7 : (e.f0 == 7) with
    | true =>
      have H7 := Veil.mk h7
      go_wp2_with (first | (go_at_call 91; go_must (have hoo := open_of HA1.out.book e.f1; rw [HV.out] at hoo; refine hoo.mono ?_; rintro ed w2 ⟨rfl, rfl⟩; clear hoo)))
      go_ret
      have hs := stepM_refuse (ts := ts) (i := i) H1.out H7.out
      cases hop : isOpen ts e.f1 with
      | true =>
        rw [hop, if_pos rfl] at hs
        exact eventPost_none rfl (HA1.out.below.mono HA1.out.base) hs
      | false =>
        rw [hop, if_neg (by decide)] at hs
        exact eventPost_some rfl (HA1.out.below.mono HA1.out.base) hs HA1.out.book
    | false =>
      have H7 := Veil.mk h7
      have HO := fun n => (open_of (HA1.out.drewN n).book e.f1).mono (fun _ _ h => And.intro h.1 h.2.symm)
      rw [HV.out] at HO
      cases hop : isOpen ts e.f1 with
      | false =>
        have hs := stepM_shut (ts := ts) (i := i) H1.out H7.out hop
        rw [hop] at HO
        have HQ := Veil.mk HO
        have HS := Veil.mk hs
        clear hop hs HO
        go_wp2_with fail
        go_quiet (first | (go_at_call 91; exact Calls.quiet_of_same (HQ.out _)))
        go_wp2
        go_ret
        exact eventPost_none rfl ((HA1.out.below.mono HA1.out.base).drewN _) HS.out
      | true =>
        obtain ⟨k, t, hk, ht, hneg, hth⟩ := isOpen_of hop
        have hkl : k < bs.length := by rw [HA1.out.book.len]; exact lastOf_lt hk
        obtain ⟨b, hb⟩ : ∃ b, bs[k]? = some b := ⟨_, List.getElem?_eq_getElem hkl⟩
        have hvb : v = .pointer (some ⟨b, 0, none⟩) := by rw [← HV.out]; exact lastM_at hk hb
        subst hvb
        have hs := stepM_open (ts := ts) (i := i) H1.out H7.out hk ht hneg
        rw [hop] at HO
        have HQ := Veil.mk HO
        have HS := Veil.mk hs
        have HB := Veil.mk hb
        have HT := Veil.mk ht
        clear hop hs HO hkl hk hneg hth hb ht
        have HTa := Veil.mk (HA1.out.book.tries k b t HB.out HT.out)
        have t1 := HTa.out.blk.cell 1 _ rfl
        have t2 := HTa.out.blk.cell 2 _ rfl
        cases hg1 : (t.f1 == e.f2) with
        | false =>
          rw [hg1] at HS
          have HS' : Veil (stepM ts i e = none) := ⟨HS.out⟩
          have hn1 : (t.f1 != e.f2) = true := by unfold bne; rw [hg1]; rfl
          clear HS
          go_wp2_with fail
          go_quiet (first | (go_at_call 91; exact Calls.quiet_of_same (HQ.out _)))
          go_wp2
          go_ret
          exact eventPost_none rfl ((HA1.out.below.mono HA1.out.base).drewN _) HS'.out
        | true =>
          cases hg2 : (t.f2 == e.f3) with
          | false =>
            rw [hg1, hg2] at HS
            have HS' : Veil (stepM ts i e = none) := ⟨HS.out⟩
            have hn1 : (t.f1 != e.f2) = false := by unfold bne; rw [hg1]; rfl
            have hn2 : (t.f2 != e.f3) = true := by unfold bne; rw [hg2]; rfl
            clear HS
            go_wp2_with fail
            go_quiet (first | (go_at_call 91; exact Calls.quiet_of_same (HQ.out _)))
            go_wp2
            go_ret
            exact eventPost_none rfl ((HA1.out.below.mono HA1.out.base).drewN _) HS'.out
          | true =>
            rw [hg1, hg2] at HS
            have HS' : Veil (stepM ts i e = (turnTr t i e).map (ts.set k)) := ⟨HS.out⟩
            have hn1 : (t.f1 != e.f2) = false := by unfold bne; rw [hg1]; rfl
            have hn2 : (t.f2 != e.f3) = false := by unfold bne; rw [hg2]; rfl
            clear HS
            go_wp2_with fail
            go_quiet (first | (go_at_call 91; exact Calls.quiet_of_same (HQ.out _)))
            have HA2 := Veil.mk (HA1.out.drewN nq)
            clear HQ HTa t1 t2 c0 c1 c2 c3 c4 c5 c6 hn1 hn2 HA1
            generalize w1.drewN nq = w2 at *
            have HTb := Veil.mk (HA2.out.book.tries k b t HB.out HT.out)
            have c0 := HA2.out.ev.cell 0 _ rfl
            have c1 := HA2.out.ev.cell 1 _ rfl
            have c2 := HA2.out.ev.cell 2 _ rfl
            have c3 := HA2.out.ev.cell 3 _ rfl
            have c4 := HA2.out.ev.cell 4 _ rfl
            have c5 := HA2.out.ev.cell 5 _ rfl
            have c6 := HA2.out.ev.cell 6 _ rfl
            cases h2 : (e.f0 == 2) with
            | true =>
              have hs : stepM ts i e = some (ts.set k (withAcc t (t.f8 ++ [accOf t i e]))) := by rw [HS'.out]; unfold turnTr; rw [if_pos (by rw [h2]; rfl)]; rfl
              go_wp2_with (first | (go_at_call 92; go_must (refine (access_any w2 base b t (ro b) i e HTb.out (HAC.out t (List.mem_of_getElem? HT.out)) (Nat.le_trans HA2.out.base HA2.out.below.size)).mono ?_; rintro ed w3 ⟨rfl, hacc⟩; have HC := Veil.mk hacc; clear hacc)))
              go_ret
              obtain ⟨row', hT', hu, hr⟩ := HC.out
              exact event_turned HA2.out HB.out HT.out hT' hu hr rfl rfl hs rfl
            | false =>
              cases h3 : (e.f0 == 3) with
              | true =>
                have hs : stepM ts i e = some (ts.set k (withAcc t (t.f8 ++ [accOf t i e]))) := by rw [HS'.out]; unfold turnTr; rw [if_pos (by rw [h3]; simp)]; rfl
                go_wp2_with (first | (go_at_call 92; go_must (refine (access_any w2 base b t (ro b) i e HTb.out (HAC.out t (List.mem_of_getElem? HT.out)) (Nat.le_trans HA2.out.base HA2.out.below.size)).mono ?_; rintro ed w3 ⟨rfl, hacc⟩; have HC := Veil.mk hacc; clear hacc)))
                go_ret
                obtain ⟨row', hT', hu, hr⟩ := HC.out
                exact event_turned HA2.out HB.out HT.out hT' hu hr rfl rfl hs rfl
              | false =>
                cases h4 : (e.f0 == 4) with
                | true =>
                  have hs : stepM ts i e = some (ts.set k (withAcc t (t.f8.map (relAcc e.f4)))) := by rw [HS'.out]; unfold turnTr; rw [if_neg (by rw [h2, h3]; decide), if_pos h4]; rfl
                  go_wp2_with (first | (go_at_call 93; go_must (refine (release_any w2 base b t (ro b) e.f4 HTb.out (HAC.out t (List.mem_of_getElem? HT.out))).mono ?_; rintro ed w3 ⟨rfl, hacc⟩; have HC := Veil.mk hacc; clear hacc)))
                  go_ret
                  exact event_turned HA2.out HB.out HT.out HC.out.1 (HC.out.2.mono (fun _ _ h => .inr h)) (.inl rfl) rfl rfl hs rfl
                | false =>
                  have t5 := HTb.out.blk.cell 5 _ rfl
                  have t6 := HTb.out.blk.cell 6 _ rfl
                  have t7 := HTb.out.blk.cell 7 _ rfl
                  have f5 := HTb.out.blk.free 5
                  have f6 := HTb.out.blk.free 6
                  have f7 := HTb.out.blk.free 7
                  cases h5 : (e.f0 == 5) with
                  | true =>
                    have hs : stepM ts i e = some (ts.set k { t with f5 := i, f7 := true }) := by rw [HS'.out]; unfold turnTr; rw [if_neg (by rw [h2, h3]; decide), if_neg (by rw [h4]; decide), if_pos h5]; rfl
                    go_wp2
                    go_ret
                    exact event_turned HA2.out HB.out HT.out ((HTb.out.put (t' := { t with f5 := i }) 5 (.int .i64 i) rfl rfl).put (t' := { t with f5 := i, f7 := true }) 7 (.bool true) rfl rfl) (((Upd.refl _ _).setCell (p := ⟨b, 5, none⟩) (fun _ => .inl rfl) _).setCell (p := ⟨b, 7, none⟩) (fun _ => .inl rfl) _) (.inl rfl) rfl rfl hs rfl
                  | false =>
                    cases h6 : (e.f0 == 6) with
                    | true =>
                      have hs : stepM ts i e = some (ts.set k { t with f5 := i, f6 := e.f6 }) := by rw [HS'.out]; unfold turnTr; rw [if_neg (by rw [h2, h3]; decide), if_neg (by rw [h4]; decide), if_neg (by rw [h5]; decide), if_pos h6]; rfl
                      have HSS := Veil.mk hs
                      clear hs
                      go_wp2_with fail
                      go_region
                      go_wp2
                      go_ret
                      exact event_turned HA2.out HB.out HT.out (((HTb.out.put (t' := { t with f5 := i }) 5 (.int .i64 i) rfl rfl).put (t' := { t with f5 := i, f6 := e.f6 }) 6 (.int .i64 e.f6) rfl rfl).below (below_drewN 1)) ((((Upd.refl _ _).setCell (p := ⟨b, 5, none⟩) (fun _ => .inl rfl) _).setCell (p := ⟨b, 6, none⟩) (fun _ => .inl rfl) _).drewN 1) (.inl rfl) rfl rfl HSS.out rfl
                    | false =>
                      have hs : stepM ts i e = none := by rw [HS'.out]; unfold turnTr; rw [if_neg (by rw [h2, h3]; decide), if_neg (by rw [h4]; decide), if_neg (by rw [h5]; decide), if_neg (by rw [h6]; decide)]; rfl
                      have HSS := Veil.mk hs
                      clear hs
                      go_wp2
                      go_ret
                      exact eventPost_none rfl (HA2.out.below.mono HA2.out.base) HSS.out
end Go.Proofs.Ytjmnbbflahacoaa.Hist
/- hist, ninth part: a trace is read. No condition. -/
namespace Go.Proofs.Ytjmnbbflahacoaa.Hist
open Go.RowKit Go.ChangeMaps Go.Maps Go.Proofs.Ytjmnbbflahacoaa.Mem Go.Proofs.Ytjmnbbflahacoaa.PHistTells Go.Proofs.YtjmnbbflahacoaaW.PrintWords
set_option linter.unusedVariables false
set_option linter.unusedSimpArgs false

/-- A trace from the place i on, a book's tries ts being there: none: it isn't right. -/
def readFrom (ts : List Tr) (i : Nat) : List Ev → Option (List Tr)
  | [] => some ts
  | e :: l => (stepM ts i e).bind fun ts' => readFrom ts' (i + 1) l
/-- A trace's tries. -/
def readM (l : List Ev) : Option (List Tr) := readFrom [] 0 l

theorem turnTr_acc {t t' : Tr} {i : Int} {e : Ev} (h : turnTr t i e = some t') : t'.f8.length ≤ t.f8.length + 1 := by
  unfold turnTr at h
  split at h
  · injection h with h; subst h; simp [withAcc]
  split at h
  · injection h with h; subst h; simp [withAcc]
  split at h
  · injection h with h; subst h; simp
  split at h
  · injection h with h; subst h; simp
  · cases h
theorem stepM_bounds {ts ts' : List Tr} {i : Int} {e : Ev} {n : Nat} (h : stepM ts i e = some ts') (hl : ts.length ≤ n) (ha : ∀ t ∈ ts, t.f8.length ≤ n) : ts'.length ≤ n + 1 ∧ ∀ t ∈ ts', t.f8.length ≤ n + 1 := by
  unfold stepM at h
  split at h
  · split at h
    · cases h
    · injection h with h
      subst h
      refine ⟨by simp; omega, fun t ht => ?_⟩
      rw [List.mem_append, List.mem_singleton] at ht
      rcases ht with ht | rfl
      · have := ha t ht; omega
      · simp [newTr]
  split at h
  · split at h
    · cases h
    · injection h with h
      subst h
      exact ⟨by omega, fun t ht => by have := ha t ht; omega⟩
  split at h
  · rename_i k hk
    split at h
    · rename_i t ht
      split at h
      · rw [Option.map_eq_some_iff] at h
        obtain ⟨t', h1, h2⟩ := h
        subst h2
        refine ⟨by simp; omega, fun u hu => ?_⟩
        rcases List.mem_or_eq_of_mem_set hu with hu | rfl
        · have := ha u hu; omega
        · have := turnTr_acc h1
          have := ha t (List.mem_of_getElem? ht)
          omega
      · cases h
    · cases h
  · cases h

theorem book_new (w : World) : BookAt (((w.alloc (.map #[] 0)).alloc (.map #[] 0)).alloc (.cells #[.slice none 0 0, .map (some w.heap.size), .map (some (w.heap.size + 1))] 124)) w.heap.size (w.heap.size + 1 + 1) [] (fun _ => .slice none 0 0) [] (.slice none 0 0) w.heap.size (w.heap.size + 1) := by
  have h1 : (w.alloc (.map #[] 0)).heap.size = w.heap.size + 1 := by simp
  have h2 : ((w.alloc (.map #[] 0)).alloc (.map #[] 0)).heap.size = w.heap.size + 1 + 1 := by simp
  have m1 := ((MapAt.made Try.prog 3 w).same (w' := (w.alloc (.map #[] 0)).alloc (.map #[] 0)) (Below.heap_alloc _ _ _ (by simp)))
  have m2 := MapAt.made Try.prog 173 (w.alloc (.map #[] 0))
  rw [h1] at m2
  refine ⟨?_, by omega, Kd.R_nil _ _ _ _ _, rfl, fun k b t h => by simp at h, by simp, fun b _ h => by simp at h, ?_, ?_, Nat.le_refl _, by omega, by omega⟩
  · have := Blk.new ((w.alloc (.map #[] 0)).alloc (.map #[] 0)) #[.slice none 0 0, .map (some w.heap.size), .map (some (w.heap.size + 1))] 124
    rw [h2] at this
    exact this
  · refine (m1.same (Below.heap_alloc _ _ _ (by simp; omega))).ext (fun x => ?_)
    unfold lastM
    cases key1 x <;> rfl
  · refine (m2.same (Below.heap_alloc _ _ _ (by simp))).ext (fun x => ?_)
    unfold countM
    cases key2 x <;> rfl

/-- What read leaves. -/
def ReadPost (w : World) (l : List Ev) (ed : Ending) (w' : World) : Prop :=
  Below w.heap.size w w' ∧ match readM l with
    | none => ed = .returned (.tuple #[.pointer none, .bool false])
    | some ts => ed = .returned (.tuple #[.pointer (some ⟨w.heap.size + 1 + 1, 0, none⟩), .bool true]) ∧ ∃ bs ro rv, BookAt w' w.heap.size (w.heap.size + 1 + 1) bs ro ts rv w.heap.size (w.heap.size + 1)

theorem eventPost_no {w w' : World} {base bb : Nat} {ts : List Tr} {ml mc : Nat} {i : Int} {e : Ev} {ed : Ending} (h : EventPost w base bb ts ml mc i e ed w') (hs : stepM ts i e = none) : ed = .returned (.bool false) ∧ Below base w w' := by
  obtain ⟨h1, h2, _⟩ := h
  rw [hs] at h1
  exact ⟨h1, h2⟩
theorem eventPost_yes {w w' : World} {base bb : Nat} {ts ts' : List Tr} {ml mc : Nat} {i : Int} {e : Ev} {ed : Ending} (h : EventPost w base bb ts ml mc i e ed w') (hs : stepM ts i e = some ts') : ed = .returned (.bool true) ∧ Below base w w' ∧ ∃ bs' ro' rv', BookAt w' base bb bs' ro' ts' rv' ml mc := by
  obtain ⟨h1, h2, h3⟩ := h
  rw [hs] at h1
  exact ⟨h1, h2, h3 _ hs⟩

set_option maxHeartbeats 1600000 in
set_option maxRecDepth 100000 in
theorem read_any (w : World) (A : Option Addr) (c : Nat) (l : List Ev) (hC : kEv.C w A l.length l) (hl : l.length ≤ 1000000000) (hok : ∀ e ∈ l, EvOk e) :
    Calls Try.prog 50 #[.slice A l.length c] w (ReadPost w l) := by
  have HC := Veil.mk hC
  have HL := Veil.mk hl
  have HO := Veil.mk hok
  have HN := Veil.mk (book_new w)
  have hb0 : Below w.heap.size w (((w.alloc (.map #[] 0)).alloc (.map #[] 0)).alloc (.cells #[.slice none 0 0, .map (some w.heap.size), .map (some (w.heap.size + 1))] 124)) :=
    (((Below.refl _ _).alloc (Nat.le_refl _) _).alloc (by simp) _).alloc (by simp; omega) _
  have HW0 := Veil.mk hb0
  clear hC hl hok hb0
  have hmm := @run_makeMap Try.prog
  go_enter Try.func50, Try.ntmps50
  go_wp2
  clear hmm
  go_loopw [5, 6, 13] (fun v5 v6 v13 wr => ∃ (k : Nat) (ts : List Tr) (bs : List Nat) (ro : Nat → Value) (rv : Value), k ≤ l.length ∧ v13 = .int .i64 k ∧ Veil (readM l = readFrom ts k (l.drop k)) ∧ Veil (BookAt wr w.heap.size (w.heap.size + 1 + 1) bs ro ts rv w.heap.size (w.heap.size + 1)) ∧ Veil (Below w.heap.size w wr) ∧ Veil (ts.length ≤ k ∧ ∀ t ∈ ts, t.f8.length ≤ k)) (fun _ _ v13 _ => l.length - (intOf v13).toNat)
  case atStart => exact ⟨0, [], [], _, _, Nat.zero_le _, rfl, ⟨rfl⟩, HN, HW0, ⟨Nat.le_refl _, by simp⟩⟩
  case round =>
    obtain ⟨k, ts, bs, ro, rv, hk, rfl, HR, HB, HW, HT⟩ := hrel
    have hm := HL.out
    by_cases hlt : k < l.length
    · have hC' := Kd.C_below HC.out HW.out
      obtain ⟨ad, rfl, h0, h1, h2, h3, h4, h5, h6⟩ := at_T31 hC' (k : Int) (by omega) (by omega)
      simp only [Int.toNat_natCast] at h0 h1 h2 h3 h4 h5 h6
      have hlti : decide ((k : Int) < (l.length : Int)) = true := decide_eq_true (by omega)
      have hx : rd_T31 l (k : Int) = l[k] := by unfold rd_T31; simp [List.getD, hlt]
      obtain ⟨x, hxx⟩ : ∃ x, rd_T31 l (k : Int) = x := ⟨_, rfl⟩
      rw [hxx] at h0 h1 h2 h3 h4 h5 h6
      have HX : Veil (l.drop k = x :: l.drop (k + 1)) := ⟨by rw [List.drop_eq_getElem_cons hlt, ← hx, hxx]⟩
      have HM : Veil (x ∈ l) := ⟨by rw [← hxx, hx]; exact List.getElem_mem _⟩
      clear hxx hx
      have hb1 : ts.length ≤ 1000000000 := by have := HT.out.1; omega
      have hb2 : ∀ t ∈ ts, t.f8.length ≤ 1000000000 := fun t ht => by have := HT.out.2 t ht; omega
      have HB1 := Veil.mk (And.intro hb1 hb2)
      clear hb1 hb2
      cases hs : stepM ts k x with
      | none =>
        have HS := Veil.mk hs
        clear hs
        go_wp2_with (first | (go_at_call 74; go_must (refine (event_any _ w.heap.size (w.heap.size + 1 + 1) bs ro ts rv w.heap.size (w.heap.size + 1) k x (HB.out.below ((Below.refl _ _).alloc (Nat.le_refl _) _)) HB1.out.1 HB1.out.2 (Nat.le_trans HW.out.size (by simp)) (HO.out x HM.out)).mono ?_; intro ed w2 hp; obtain ⟨rfl, hbw⟩ := eventPost_no hp HS.out; have HBW := Veil.mk hbw; clear hp hbw)))
        go_ret2
        have hno : readM l = none := by rw [HR.out, HX.out]; unfold readFrom; rw [HS.out]; rfl
        exact ⟨(HW.out.alloc HW.out.size _).trans HBW.out, by rw [hno]; rfl⟩
      | some ts' =>
        have HS := Veil.mk hs
        clear hs
        go_wp2_with (first | (go_at_call 74; go_must (refine (event_any _ w.heap.size (w.heap.size + 1 + 1) bs ro ts rv w.heap.size (w.heap.size + 1) k x (HB.out.below ((Below.refl _ _).alloc (Nat.le_refl _) _)) HB1.out.1 HB1.out.2 (Nat.le_trans HW.out.size (by simp)) (HO.out x HM.out)).mono ?_; intro ed w2 hp; obtain ⟨rfl, hbw, hbk⟩ := eventPost_yes hp HS.out; have HBW := Veil.mk hbw; have HBK := Veil.mk hbk; clear hp hbw hbk)))
        go_roundw
        case rel =>
          obtain ⟨bs', ro', rv', hb'⟩ := HBK.out
          exact ⟨k + 1, ts', bs', ro', rv', by omega, by go_num, ⟨by rw [HR.out, HX.out]; show (stepM ts k x).bind _ = _; rw [HS.out]; rfl⟩, ⟨hb'⟩, ⟨(HW.out.alloc HW.out.size _).trans HBW.out⟩, ⟨stepM_bounds HS.out HT.out.1 HT.out.2⟩⟩
        case measure => simp [intOf]; omega
    · have hkl : k = l.length := by omega
      have hlti : decide ((k : Int) < (l.length : Int)) = false := decide_eq_false (by omega)
      have HF : Veil (readM l = some ts) := ⟨by rw [HR.out, hkl, List.drop_length]; rfl⟩
      clear hkl
      go_wp2
      go_ret2
      exact ⟨HW.out, by rw [HF.out]; exact ⟨rfl, _, _, _, HB.out⟩⟩
end Go.Proofs.Ytjmnbbflahacoaa.Hist
/- hist, tenth part: the iterator over the tries that are asked for. No condition. -/
namespace Go.Proofs.Ytjmnbbflahacoaa.Hist
open Go.RowKit Go.ChangeMaps Go.Maps Go.Proofs.Ytjmnbbflahacoaa.Mem Go.Proofs.Ytjmnbbflahacoaa.PHistTells Go.Proofs.YtjmnbbflahacoaaW.PrintWords
set_option linter.unusedVariables false
set_option linter.unusedSimpArgs false
attribute [local go_sem] Oper.semAt_some

/-- The block of the row that the cell B holds. -/
def outRow (W : World) (B : Nat) : Option Nat := (W.cell? ⟨B, 0, none⟩).bind Value.ownBlock
/-- What a round keeps: all cells but B's, and but those of the row that B holds. -/
structure Keeps (B : Nat) (W W' : World) : Prop where
  cells : ∀ k T, Typed W k T → k ≠ B → outRow W B ≠ some k → W'.heap[k]? = W.heap[k]?
  row : ∀ k, outRow W' B = some k → outRow W B = some k ∨ W.heap.size ≤ k
  size : W.heap.size ≤ W'.heap.size
/-- All cells of w but B's lie as they lay. -/
def Still (B : Nat) (w W : World) : Prop := ∀ k T, Typed w k T → k ≠ B → W.heap[k]? = w.heap[k]?
theorem typed_lt {w : World} {k T : Nat} (h : Typed w k T) : k < w.heap.size := by
  obtain ⟨c, h⟩ := h
  exact (Array.getElem?_eq_some_iff.1 h).1
theorem Still.typed {B : Nat} {w W : World} (h : Still B w W) {k T : Nat} (hk : Typed w k T) (hn : k ≠ B) : Typed W k T := by
  obtain ⟨c, hc⟩ := hk
  exact ⟨c, (h k T ⟨c, hc⟩ hn).trans hc⟩
theorem Still.refl (B : Nat) (w : World) : Still B w w := fun _ _ _ _ => rfl
theorem Still.below {B : Nat} {w W W' : World} (h : Still B w W) (hs : w.heap.size ≤ W.heap.size) (hb : Below W.heap.size W W') : Still B w W' := fun k T hk hn =>
  (hb.block k (Nat.lt_of_lt_of_le (typed_lt hk) hs)).trans (h k T hk hn)
theorem Still.keeps {B : Nat} {w W W' : World} (h : Still B w W) (hk : Keeps B W W') (ho : ∀ k, outRow W B = some k → w.heap.size ≤ k) : Still B w W' := fun k T hty hn =>
  (hk.cells k T (h.typed hty hn) hn (fun he => by have := ho k he; have := typed_lt hty; omega)).trans (h k T hty hn)
theorem Still.cell {B b T : Nat} {w W : World} {o : Nat} {v : Value} (h : Still B w W) (hty : Typed w b T) (hn : b ≠ B) (hv : w.cell? ⟨b, o, none⟩ = some v) : W.cell? ⟨b, o, none⟩ = some v :=
  (World.cell?_of_block (w := w) (h b T hty hn)).trans hv
theorem outRow_below {B : Nat} {W W' : World} (hB : B < W.heap.size) (hb : Below W.heap.size W W') : outRow W' B = outRow W B := by
  unfold outRow
  rw [hb.cell (p := ⟨B, 0, none⟩) hB]

/-- The tries of a book lie, all of them in blocks from base on and below hi. -/
structure TriesAt (w : World) (base hi : Nat) (bs : List Nat) (ro : Nat → Value) (ts : List Tr) (rv : Value) : Prop where
  row : kPtr.R 85 w base (fun _ => True) rv bs
  len : bs.length = ts.length
  tries : ∀ (k : Nat) (b : Nat) (t : Tr), bs[k]? = some b → ts[k]? = some t → TryAt w base b t (ro b)
  hi1 : ∀ k, rv.ownBlock = some k → k < hi
  hi2 : ∀ b, b ∈ bs → b < hi ∧ ∀ k, (ro b).ownBlock = some k → k < hi
theorem BookAt.some {w : World} {base bb : Nat} {bs : List Nat} {ro : Nat → Value} {ts : List Tr} {rv : Value} {ml mc : Nat} (h : BookAt w base bb bs ro ts rv ml mc) : TriesAt w base w.heap.size bs ro ts rv :=
  ⟨h.row, h.len, h.tries, fun k hk => by obtain ⟨inner, ho⟩ := Kd.R_own h.row; exact own_lt ho k hk, fun b hb => by
    obtain ⟨k, hk⟩ := List.getElem?_of_mem hb
    have hlt : k < ts.length := by rw [← h.len]; exact (List.getElem?_eq_some_iff.1 hk).1
    have := h.tries k b _ hk (List.getElem?_eq_getElem hlt)
    exact ⟨this.blk.lt, fun j hj => row_lt this hj⟩⟩
theorem TriesAt.move {w w' : World} {base hi : Nat} {bs : List Nat} {ro : Nat → Value} {ts : List Tr} {rv : Value} (h : TriesAt w base hi bs ro ts rv) (hm : ∀ k T, Typed w k T → base ≤ k → k < hi → w'.heap[k]? = w.heap[k]?) : TriesAt w' base hi bs ro ts rv := by
  refine ⟨?_, h.len, fun k b t hb ht => ?_, h.hi1, h.hi2⟩
  · obtain ⟨inner, ho⟩ := Kd.R_own h.row
    exact Kd.R_mono (Kd.R_step (Kd.R_tight (by rfl) h.row) (fun k hk _ => hm k _ (row_typed h.row hk.symm) (own_base ho k hk.symm) (h.hi1 k hk.symm))) (fun _ _ => trivial)
  · have hT := h.tries k b t hb ht
    have hh := h.hi2 b (List.mem_of_getElem? hb)
    refine ⟨(hm b _ (blk_typed hT.blk) hT.low hh.1).trans hT.blk, hT.low, ?_⟩
    obtain ⟨inner, ho⟩ := Kd.R_own hT.acc
    exact Kd.R_mono (Kd.R_step (Kd.R_tight (by rfl) hT.acc) (fun k hk _ => hm k _ (row_typed hT.acc hk.symm) (own_base ho k hk.symm) (hh.2 k hk.symm))) (fun _ _ => trivial)
theorem TriesAt.below {w w' : World} {base hi : Nat} {bs : List Nat} {ro : Nat → Value} {ts : List Tr} {rv : Value} (h : TriesAt w base hi bs ro ts rv) (hb : Below w.heap.size w w') : TriesAt w' base hi bs ro ts rv :=
  h.move (fun k T hk _ _ => hb.block k (typed_lt hk))
theorem TriesAt.keeps {B : Nat} {w w' : World} {base hi : Nat} {bs : List Nat} {ro : Nat → Value} {ts : List Tr} {rv : Value} (h : TriesAt w base hi bs ro ts rv) (hk : Keeps B w w') (hB : B < base) (ho : ∀ k, outRow w B = some k → hi ≤ k) : TriesAt w' base hi bs ro ts rv :=
  h.move (fun k T hty h1 h2 => hk.cells k T hty (by omega) (fun he => by have := ho k he; omega))

/-- A pointer of the row. -/
theorem TriesAt.get {w : World} {base hi : Nat} {bs : List Nat} {ro : Nat → Value} {ts : List Tr} {rv : Value} (h : TriesAt w base hi bs ro ts rv) {A : Option Addr} {c : Nat} (hv : rv = .slice A ts.length c) (k : Nat) (hk : k < ts.length) :
    ∃ g b, A = some ⟨g, 0, none⟩ ∧ w.cell? ⟨g, k, none⟩ = some (.pointer (some ⟨b, 0, none⟩)) ∧ TryAt w base b ts[k] (ro b) := by
  subst hv
  have hkb : k < bs.length := by rw [h.len]; exact hk
  obtain ⟨g, cap, he, _⟩ := Kd.R_form h.row (by omega)
  injection he with he _ _
  subst he
  obtain ⟨cs, hcl, hM, hcc, hfr⟩ := Kd.R_elem h.row 0 (k : Int) (by omega) (by omega)
  simp only [Int.toNat_natCast, List.getD_eq_getElem?_getD, List.getElem?_eq_getElem hkb, Option.getD_some] at hM hcc
  have hM' : cs = [.pointer (some ⟨bs[k], 0, none⟩)] := hM
  subst hM'
  refine ⟨g, bs[k], rfl, ?_, h.tries k _ _ (List.getElem?_eq_getElem hkb) (List.getElem?_eq_getElem hk)⟩
  have := hcc 0 _ rfl
  simpa [kPtr, Kd.scalar] using this

theorem readFrom_length : ∀ (l : List Ev) (ts ts' : List Tr) (i : Nat), readFrom ts i l = some ts' → ts'.length ≤ ts.length + l.length
  | [], ts, ts', i, h => by
    injection h with h
    subst h
    simp
  | e :: l, ts, ts', i, h => by
    unfold readFrom at h
    rw [Option.bind_eq_some_iff] at h
    obtain ⟨t1, h1, h2⟩ := h
    have hb : t1.length ≤ ts.length + 1 := by
      unfold stepM at h1
      split at h1
      · split at h1
        · cases h1
        · injection h1 with h1; subst h1; simp
      split at h1
      · split at h1
        · cases h1
        · injection h1 with h1; subst h1; omega
      split at h1
      · split at h1
        · split at h1
          · rw [Option.map_eq_some_iff] at h1
            obtain ⟨t', _, h1⟩ := h1
            subst h1; simp
          · cases h1
        · cases h1
      · cases h1
    have := readFrom_length l t1 ts' (i + 1) h2
    simp only [List.length_cons]
    omega
theorem readM_length {l : List Ev} {ts : List Tr} (h : readM l = some ts) : ts.length ≤ l.length := by
  have := readFrom_length l [] ts 0 h
  simpa using this
theorem TryAt.cells {w : World} {base b : Nat} {t : Tr} {row : Value} (h : TryAt w base b t row) : w.cell? ⟨b, 0, none⟩ = some (.int .i64 t.f0) ∧ w.cell? ⟨b, 1, none⟩ = some (.int .i64 t.f1) ∧ w.cell? ⟨b, 2, none⟩ = some (.int .i64 t.f2) ∧ w.cell? ⟨b, 3, none⟩ = some (.int .i64 t.f3) ∧
    w.cell? ⟨b, 4, none⟩ = some (.int .i64 t.f4) ∧ w.cell? ⟨b, 5, none⟩ = some (.int .i64 t.f5) ∧ w.cell? ⟨b, 6, none⟩ = some (.int .i64 t.f6) ∧ w.cell? ⟨b, 7, none⟩ = some (.bool t.f7) ∧ w.cell? ⟨b, 8, none⟩ = some row :=
  ⟨h.blk.cell 0 _ rfl, h.blk.cell 1 _ rfl, h.blk.cell 2 _ rfl, h.blk.cell 3 _ rfl, h.blk.cell 4 _ rfl, h.blk.cell 5 _ rfl, h.blk.cell 6 _ rfl, h.blk.cell 7 _ rfl, h.blk.cell 8 _ rfl⟩
theorem none_fn : ∀ f : FuncId, (none : Option FuncId) = some f → Fence.wide.fn f := fun _ _ => trivial
theorem wide_ok {n : Nat} : Fence.wide.depth.isSome = true → 1 ≤ n := fun h => by cases h

set_option maxHeartbeats 1600000 in
set_option maxRecDepth 100000 in
theorem those1_any (n : Nat) (w : World) (A : Option Addr) (c : Nat) (l : List Ev) (hC : kEv.C w A l.length l) (hl : l.length ≤ 1000000000) (hok : ∀ e ∈ l, EvOk e) (L B bl ba Tl Ta askf : Nat) (askl : Array Value) (ask : Tr → Bool)
    (hB : B < w.heap.size) (hbl : bl ≠ B) (hba : ba ≠ B) (tl : Typed w bl Tl) (ta : Typed w ba Ta) (cl : w.cell? ⟨bl, 0, none⟩ = some (.slice A l.length c)) (ca : w.cell? ⟨ba, 0, none⟩ = some (.func (.func askf) #[] askl)) (hout : outRow w B = none)
    (heg : ∀ args w, (callFunc askf args).run Try.prog w = .ok (.enter askf args) w)
    (hask : ∀ W b t row, Still B w W → TryAt W w.heap.size b t row → Calls Try.prog askf (#[.pointer (some ⟨b, 0, none⟩)] ++ askl) W (fun e W' => e = .returned (.bool (ask t)) ∧ Below W.heap.size W W'))
    (J : List (Tr × Value) → World → Prop) (hab : ∀ pre W W', J pre W → Below W.heap.size W W' → J pre W')
    (hround : ∀ pre (x : Tr × Value) W, pre.length ≤ l.length → J pre W → kAcc.R 33 W w.heap.size (fun _ => True) x.2 x.1.f8 → YieldAt Fence.wide (n - 1) Try.prog L #[.agg (trC x.1 x.2).toArray] W (fun e W' => e = .returned (.bool true) ∧ (J (pre ++ [x]) W' ∧ Keeps B W W')))
    (h0 : J [] w) :
    CallsIn Fence.wide n Try.prog 94 #[.func (.yield L) #[] #[], .pointer (some ⟨bl, 0, none⟩), .pointer (some ⟨ba, 0, none⟩)] w
      fun e W' => (∃ v, e = .returned v) ∧ ∃ xs, xs.map (·.1) = ((readM l).getD []).filter ask ∧ J xs W' := by
  have HR := Veil.mk (read_any w A c l hC hl hok)
  have HJ := Veil.mk h0
  have HLL := Veil.mk hl
  have HAB := Veil.mk hab
  have HRO := Veil.mk hround
  have HAS := Veil.mk hask
  have HX := Veil.mk (And.intro hB (And.intro hbl (And.intro hba (And.intro tl (And.intro ta (And.intro ca hout))))))
  clear hC hl hok hab hround hask h0 hB hbl hba tl ta hout
  refine callsIn_of_wp Try.func94 rfl trivial ?_ rfl
  simp only [Try.ntmps94, List.size_toArray, List.length_cons, List.length_nil, Nat.reduceAdd, Nat.reduceSub, Array.replicate_succ, Array.replicate_zero, List.push_toArray, List.append_toArray, List.nil_append, List.cons_append]
  cases hrm : readM l with
  | none =>
    have hp : Veil (∀ ed w', ReadPost w l ed w' → ed = .returned (.tuple #[.pointer none, .bool false]) ∧ Below w.heap.size w w') := ⟨fun ed w' h => by unfold ReadPost at h; rw [hrm] at h; exact ⟨h.2, h.1⟩⟩
    clear hrm
    gi_wp2_with (refine ⟨trivial, wide_ok, ?_⟩; gi_at_call 50; refine ((callsIn_wide (n := n - 1)).2 HR.out).mono ?_; intro ed w2 h; have h' := hp.out ed w2 h; obtain ⟨rfl, hb⟩ := h'; have HB2 := Veil.mk hb; clear h hb)
    (try simp only [Exit.inBlock, Exit.then])
    refine bodyPost_ret (results_none rfl _ _ _) rfl ?_
    exact ⟨⟨_, rfl⟩, [], rfl, HAB.out _ _ _ HJ.out HB2.out⟩
  | some ts =>
    have hp : Veil (∀ ed w', ReadPost w l ed w' → ed = .returned (.tuple #[.pointer (some ⟨w.heap.size + 1 + 1, 0, none⟩), .bool true]) ∧ Below w.heap.size w w' ∧ ∃ A' c' bs ro, w'.cell? ⟨w.heap.size + 1 + 1, 0, none⟩ = some (.slice A' ts.length c') ∧ TriesAt w' w.heap.size w'.heap.size bs ro ts (.slice A' ts.length c')) := ⟨fun ed w' h => by
      unfold ReadPost at h
      rw [hrm] at h
      obtain ⟨hb, he, bs, ro, rv, hB⟩ := h
      obtain ⟨A', c', rfl, _, _⟩ := Kd.R_reads hB.row
      have h0 := hB.blk.cell 0 _ rfl
      have h1 := hB.some
      rw [hB.len] at h0 h1
      exact ⟨he, hb, A', c', bs, ro, h0, h1⟩⟩
    have hlen := readM_length hrm
    have HLN := Veil.mk hlen
    clear hrm hlen
    gi_wp2_with (refine ⟨trivial, wide_ok, ?_⟩; gi_at_call 50; refine ((callsIn_wide (n := n - 1)).2 HR.out).mono ?_; intro ed w2 h; have h' := hp.out ed w2 h; obtain ⟨rfl, hb, A', c', bs, ro, b0, hT⟩ := h'; have HB2 := Veil.mk hb; have HT := Veil.mk hT; clear h hb hT)
    have HJ2 := Veil.mk (HAB.out _ _ _ HJ.out HB2.out)
    have HS2 := Veil.mk ((Still.refl B w).below (Nat.le_refl _) HB2.out)
    have HO2 : Veil (∀ j, outRow w2 B = some j → w2.heap.size ≤ j) := ⟨fun j hj => by rw [outRow_below HX.out.1 HB2.out, HX.out.2.2.2.2.2.2] at hj; cases hj⟩
    clear HJ b0 HR hp ca cl
    gi_loopw [7, 20] (fun v7 v20 wr => ∃ (k : Nat) (pre : List (Tr × Value)), k ≤ ts.length ∧ v20 = .int .i64 k ∧ Veil (pre.map (·.1) = (ts.take k).filter ask) ∧ Veil (J pre wr) ∧ Veil (TriesAt wr w.heap.size w2.heap.size bs ro ts (.slice A' ts.length c')) ∧ Veil (Still B w wr) ∧ Veil (∀ j, outRow wr B = some j → w2.heap.size ≤ j) ∧ Veil (w2.heap.size ≤ wr.heap.size)) (fun _ v20 _ => ts.length - (intOf v20).toNat)
    case atStart => exact ⟨0, [], Nat.zero_le _, rfl, ⟨rfl⟩, HJ2, HT, HS2, HO2, ⟨Nat.le_refl _⟩⟩
    case round =>
      obtain ⟨k, pre, hk, rfl, HP, HJk, HTk, HSk, HOk, HZk⟩ := hrel
      have hm := HLN.out
      have hm2 := HLL.out
      by_cases hlt : k < ts.length
      · obtain ⟨g, b, rfl, hg, hTr⟩ := HTk.out.get rfl k hlt
        have hlti : decide ((k : Int) < (ts.length : Int)) = true := decide_eq_true (by omega)
        have ca := HSk.out.cell HX.out.2.2.2.2.1 HX.out.2.2.1 HX.out.2.2.2.2.2.1
        have HTr := Veil.mk hTr
        clear hTr
        cases hak : ask ts[k] with
        | false =>
          have HAK := Veil.mk hak
          clear hak
          gi_wp2_with (first | (refine ⟨trivial, wide_ok, ?_⟩; with_reducible refine ((callsIn_wide (n := n - 1)).2 (HAS.out wr b ts[k] (ro b) HSk.out HTr.out)).mono ?_; rintro e w3 ⟨rfl, hb3⟩; rw [HAK.out]; have HB3 := Veil.mk hb3; clear hb3) | (with_reducible refine And.intro none_fn ?_))
          go_roundw
          case rel => exact ⟨k + 1, pre, by omega, by go_num, ⟨by rw [HP.out, List.take_succ_eq_append_getElem hlt, List.filter_append, List.filter_cons, HAK.out]; simp⟩, ⟨HAB.out _ _ _ HJk.out HB3.out⟩, ⟨HTk.out.below HB3.out⟩, ⟨HSk.out.below (Nat.le_trans HB2.out.size HZk.out) HB3.out⟩,
            ⟨fun j hj => HOk.out j (by rwa [outRow_below (Nat.lt_of_lt_of_le HX.out.1 (Nat.le_trans HB2.out.size HZk.out)) HB3.out] at hj)⟩, ⟨Nat.le_trans HZk.out HB3.out.size⟩⟩
          case measure => simp [intOf]; omega
        | true =>
          have HAK := Veil.mk hak
          clear hak
          have HPL : Veil (pre.length ≤ l.length) := ⟨by
            have h1 := congrArg List.length HP.out
            rw [List.length_map] at h1
            have h2 := List.length_filter_le ask (ts.take k)
            rw [List.length_take] at h2
            omega⟩
          gi_wp2_with (first | (refine ⟨trivial, wide_ok, ?_⟩; with_reducible refine ((callsIn_wide (n := n - 1)).2 (HAS.out wr b ts[k] (ro b) HSk.out HTr.out)).mono ?_; go_must (rintro e w3 ⟨rfl, hb3⟩; rw [HAK.out]; have HB3 := Veil.mk hb3; clear hb3; have HT3 := Veil.mk (HTr.out.below HB3.out); have HJ3 := Veil.mk (HAB.out _ _ _ HJk.out HB3.out); have hcc := HT3.out.cells; obtain ⟨q0, q1, q2, q3, q4, q5, q6, q7, q8⟩ := hcc; have hyr := HRO.out pre (ts[k], ro b) w3 HPL.out HJ3.out HT3.out.acc; unfold YieldAt at hyr; obtain ⟨fn, tmps, assign, body, hy, hR⟩ := hyr; dsimp only [trC] at hy; have HRR := Veil.mk hR; clear hR)))
          refine ⟨wide_ok, HRR.out.mono ?_⟩
          rintro e w4 ⟨rfl, hJ4, hK4⟩
          have HJ4 := Veil.mk hJ4
          have HK4 := Veil.mk hK4
          have HO3 : Veil (∀ j, outRow w3 B = some j → w2.heap.size ≤ j) := ⟨fun j hj => HOk.out j (by rwa [outRow_below (Nat.lt_of_lt_of_le HX.out.1 (Nat.le_trans HB2.out.size HZk.out)) HB3.out] at hj)⟩
          clear hJ4 hK4 hy
          gi_wp2
          go_roundw
          case rel => exact ⟨k + 1, pre ++ [(ts[k], ro b)], by omega, by go_num, ⟨by rw [List.map_append, HP.out, List.take_succ_eq_append_getElem hlt, List.filter_append, List.filter_cons, HAK.out]; simp⟩, HJ4, ⟨(HTk.out.below HB3.out).keeps HK4.out HX.out.1 HO3.out⟩,
            ⟨(HSk.out.below (Nat.le_trans HB2.out.size HZk.out) HB3.out).keeps HK4.out (fun j hj => Nat.le_trans HB2.out.size (HO3.out j hj))⟩,
            ⟨fun j hj => by
              rcases HK4.out.row j hj with h | h
              · exact HO3.out j h
              · exact Nat.le_trans (Nat.le_trans HZk.out HB3.out.size) h⟩, ⟨Nat.le_trans HZk.out (Nat.le_trans HB3.out.size HK4.out.size)⟩⟩
          case measure => simp [intOf]; omega
      · have hkl : k = ts.length := by omega
        have hlti : decide ((k : Int) < (ts.length : Int)) = false := decide_eq_false (by omega)
        have HF : Veil (pre.map (·.1) = ts.filter ask) := ⟨by have := HP.out; rwa [hkl, List.take_length] at this⟩
        clear hkl
        gi_wp2
        (try simp only [Exit.inBlock, Exit.then])
        go_end0
        exact ⟨⟨_, rfl⟩, pre, HF.out, HJk.out⟩
end Go.Proofs.Ytjmnbbflahacoaa.Hist
/- hist, eleventh part: all tries that are asked for. No condition. -/
namespace Go.Proofs.Ytjmnbbflahacoaa.Hist
open Go.RowKit Go.ChangeMaps Go.Maps Go.Proofs.Ytjmnbbflahacoaa.Mem Go.Proofs.Ytjmnbbflahacoaa.PHistTells Go.Proofs.YtjmnbbflahacoaaW.PrintWords
set_option linter.unusedVariables false
set_option linter.unusedSimpArgs false
attribute [local go_sem] Oper.semAt_some

theorem those_any (w : World) (A : Option Addr) (n c askf : Nat) (askl : Array Value) : Calls Try.prog 75 #[.slice A n c, .func (.func askf) #[] askl] w
      fun ed w' => ed = .returned (.func (.func 94) #[] #[.pointer (some ⟨w.heap.size, 0, none⟩), .pointer (some ⟨w.heap.size + 1, 0, none⟩)]) ∧ w' = (w.alloc (.cells #[.slice A n c] 22)).alloc (.cells #[.func (.func askf) #[] askl] 86) := by
  go_enter Try.func75, Try.ntmps75
  go_wp2
  go_ret
  exact ⟨rfl, rfl⟩

/-- append(v, x) inside a fence, behind 'gi_at_builtin'. -/
theorem R_appendIn {F : Fence} {nF : Nat} {P : Program} {ops : Array Oper} {rest : List Oper} {o : Oper} {a : Act} {Q : Exit → Act → World → Prop} {α : Type} (d : Kd α) {W : World} (base : Nat) (hgd : o.guard = none) (s x : Operand) (t e : TypeId) (z : Value) (bytes : Nat)
    (ho : o.op = .call { callee := .builtin .append, args := #[s, x], argTypes := #[t, t] })
    (ht : P.underlying t = some (.slice e)) (hinfo : (P.info? e).map (fun i => (i.zero, i.size, i.bytes)) = some (some z, d.sz, bytes)) (hz : z.cells.size = d.sz) (hs0 : 0 < d.sz) (hb0 : 0 < bytes)
    (v : Value) (xs : List α) (p : α) (cs : List Value) (ok okp : Nat → Prop) (hs : a.eval s = v) (hx : a.eval x = .slice (some ⟨W.heap.size, 0, none⟩) 1 1) (hp : d.M W base okp p cs) (hokp : ∀ k, okp k → ok k ∧ some k ≠ v.ownBlock) (hfresh : ∀ k, W.heap.size ≤ k → ok k)
    (HO : d.R e W base ok v xs) (hbase : base ≤ W.heap.size) (hl : (xs.length + 1) * bytes ≤ 140737488355328)
    (h : ∀ v1 w1, d.R e w1 base ok v1 (xs ++ [p]) → W.grownBy w1 v.ownBlock → (v1.ownBlock = v.ownBlock ∨ ∃ b, v1.ownBlock = some b ∧ W.heap.size ≤ b) → wpListIn F nF P ops Q rest (a.put o.dst v1) w1) :
    wpListIn F nF P ops Q (o :: rest) a (W.alloc (.cells cs.toArray e)) := by
  obtain ⟨h0, inner, hown, hr⟩ := HO
  obtain ⟨i0, hi, hzz⟩ := Option.map_eq_some_iff.1 hinfo
  simp only [Prod.mk.injEq] at hzz
  obtain ⟨hz0, hz1, hz2⟩ := hzz
  have hlen : xs.length + 1 ≤ 140737488355328 := Nat.le_trans (Nat.le_mul_of_pos_right _ hb0) hl
  have hys := d.K_len (d.K_of_M hp)
  refine wpListIn_append_own_at (W.alloc (.cells cs.toArray e)) hgd s x t ho base e i0 z d.sz bytes ht hi hz0 hz1 hz2 hz hs0 v xs.length inner hs (hown.alloc _) ⟨W.heap.size, 0, none⟩ 1 1 cs hx (by rw [hys]; simp)
    (by simpa using World.news_of_block (cs := cs.toArray) (t := e) (fr := (0, 0)) (World.alloc_heap_new W (.cells cs.toArray e))) (d.K_one (d.K_of_M hp)) (by simp only [maxLen]; omega) hl (by simp; omega) ?_
  intro v1 w1 hown1 hg _ hat
  have hg1 := World.grownBy.trans (World.grownBy_alloc W _ _) hg
  have hat1 : v1.ownBlock = v.ownBlock ∨ ∃ b, v1.ownBlock = some b ∧ W.heap.size ≤ b := by
    rcases hat with hat | hat
    · exact .inl hat
    · exact .inr ⟨_, hat, by simp⟩
  exact h v1 w1 (Kd.R_appended h0 hr hp hokp hfresh hown1 hg1 hat1) hg1 hat1

/-- What a list of the iterator's is while all gathers it. -/
structure GatherOut (w0 : World) (B : Nat) (pre : List (Tr × Value)) (W : World) : Prop where
  row : ∃ v, Blk W B 25 [v] ∧ kTr.R 29 W w0.heap.size (fun _ => True) v (pre.map (·.1))
  below : Below w0.heap.size w0 W
  low : w0.heap.size ≤ B
structure Gather (w0 : World) (B : Nat) (r : Loop) (D L : Nat) (pre : List (Tr × Value)) (W : World) : Prop where
  out : GatherOut w0 B pre W
  loop : LoopReady r D L W
theorem Gather.step {w0 W W' : World} {B : Nat} {r : Loop} {D L : Nat} {pre : List (Tr × Value)} (h : Gather w0 B r D L pre W) (hb : Below W.heap.size W W') : Gather w0 B r D L pre W' := by
  obtain ⟨v, hB, hR⟩ := h.out.row
  exact ⟨⟨⟨v, hB.below hb hB.lt, Kd.R_below hR hb⟩, h.out.below.trans (hb.mono h.out.below.size), h.out.low⟩, ⟨(hb.block L (Array.getElem?_eq_some_iff.1 h.loop.made).1).trans h.loop.made, (hb.block D (Array.getElem?_eq_some_iff.1 h.loop.calls).1).trans h.loop.calls⟩⟩

/-- What stands where all's loop begins. -/
structure AllStart (w w3 : World) (A : Option Addr) (n c askf : Nat) (askl : Array Value) : Prop where
  out : Blk w3 w.heap.size 25 [.slice none 0 0]
  l : Blk w3 (w.heap.size + 1) 22 [.slice A n c]
  ask : Blk w3 (w.heap.size + 1 + 1) 86 [.func (.func askf) #[] askl]
  below : Below w.heap.size w w3
  size : w3.heap.size = w.heap.size + 3
theorem all_start (w : World) (A : Option Addr) (n c askf : Nat) (askl : Array Value) : AllStart w (((w.alloc (.cells #[.slice none 0 0] 25)).alloc (.cells #[.slice A n c] 22)).alloc (.cells #[.func (.func askf) #[] askl] 86)) A n c askf askl := by
  have h1 : (w.alloc (.cells #[.slice none 0 0] 25)).heap.size = w.heap.size + 1 := by simp
  have h2 : ((w.alloc (.cells #[.slice none 0 0] 25)).alloc (.cells #[.slice A n c] 22)).heap.size = w.heap.size + 1 + 1 := by simp
  have b2 := Blk.new (w.alloc (.cells #[.slice none 0 0] 25)) #[.slice A n c] 22
  have b3 := Blk.new ((w.alloc (.cells #[.slice none 0 0] 25)).alloc (.cells #[.slice A n c] 22)) #[.func (.func askf) #[] askl] 86
  rw [h1] at b2
  rw [h2] at b3
  exact ⟨((Blk.new w _ _).alloc _).alloc _, b2.alloc _, b3, (((Below.refl _ _).alloc (Nat.le_refl _) _).alloc (by simp) _).alloc (by simp; omega) _, by simp⟩

/-- What stands where a round's body begins. -/
structure RoundStart (w0 X Y : World) (B D L : Nat) (r : Loop) (v : Value) (pre : List (Tr × Value)) (x : Tr × Value) : Prop where
  out : Blk Y B 25 [v]
  row : kTr.R 29 Y w0.heap.size (fun _ => True) v (pre.map (·.1))
  acc : kAcc.R 33 Y w0.heap.size (fun _ => True) x.2 x.1.f8
  t : Blk Y X.heap.size 29 (trC x.1 x.2)
  busy : Y.heap[L]? = some (.loop (Loop.atBusy r))
  calls : Y.heap[D]? = some (.deferred (some []))
  size : Y.heap.size = X.heap.size + 1
  old : ∀ k, k < X.heap.size → k ≠ L → Y.heap[k]? = X.heap[k]?
  os : Y.os = X.os
  tape : Y.tape = X.tape
  output : Y.output = X.output
theorem R_loop {α : Type} {d : Kd α} {e : Nat} {W : World} {base : Nat} {v : Value} {xs : List α} (h : d.R e W base (fun _ => True) v xs) {L : Nat} {r : Loop} (hl : W.heap[L]? = some (.loop r)) (o : Obj) : d.R e (W.putObj L o) base (fun _ => True) v xs :=
  Kd.R_mono (Kd.R_move (Kd.R_bound h) (fun k hk => World.putObj_heap_other (fun e => by
    obtain ⟨_, _, _, q, _, cells, hc⟩ := hk
    rw [e, hl] at hc
    cases hc))) (fun _ _ => trivial)
theorem blk_loop {W : World} {b T : Nat} {cs : List Value} (h : Blk W b T cs) {L : Nat} {r : Loop} (hl : W.heap[L]? = some (.loop r)) (o : Obj) : Blk (W.putObj L o) b T cs :=
  (World.putObj_heap_other (fun e => by unfold Blk at h; rw [e, hl] at h; cases h)).trans h
theorem round_start {w0 X : World} {B D L : Nat} {r : Loop} {v : Value} {pre : List (Tr × Value)} {x : Tr × Value} (hG : Gather w0 B r D L pre X) (hv : Blk X B 25 [v]) (hR : kTr.R 29 X w0.heap.size (fun _ => True) v (pre.map (·.1)))
    (hacc : kAcc.R 33 X w0.heap.size (fun _ => True) x.2 x.1.f8) (hDL : D ≠ L) : RoundStart w0 X ((X.alloc (.cells (trC x.1 x.2).toArray 29)).putObj L (.loop (Loop.atBusy r))) B D L r v pre x := by
  have hb : Below X.heap.size X (X.alloc (.cells (trC x.1 x.2).toArray 29)) := (Below.refl _ _).alloc (Nat.le_refl _) _
  have hlt := (Array.getElem?_eq_some_iff.1 hG.loop.made).1
  have hl := (hb.block L hlt).trans hG.loop.made
  exact ⟨blk_loop (hv.below hb hv.lt) hl _, R_loop (Kd.R_below hR hb) hl _, R_loop (Kd.R_below hacc hb) hl _, blk_loop (by have := Blk.new X (trC x.1 x.2).toArray 29; simpa using this) hl _,
    World.putObj_heap_same (Nat.lt_of_lt_of_le hlt hb.size), (World.putObj_heap_other hDL).trans ((hb.block D (Array.getElem?_eq_some_iff.1 hG.loop.calls).1).trans hG.loop.calls), by simp, fun k hk hn => (World.putObj_heap_other hn).trans (hb.block k hk), rfl, rfl, rfl⟩

theorem info29 : (Try.prog.info? 29).map (fun i => (i.zero, i.size, i.bytes)) = some (some (.agg #[.int .i64 0, .int .i64 0, .int .i64 0, .int .i64 0, .int .i64 0, .int .i64 0, .int .i64 0, .bool false, .slice none 0 0]), 9, 88) := by kernel_rfl
/-- The element that is appended, made. -/
theorem round_elem {w0 X Y : World} {B D L : Nat} {r : Loop} {v : Value} {pre : List (Tr × Value)} {x : Tr × Value} (h : RoundStart w0 X Y B D L r v pre x) : kTr.M Y w0.heap.size (fun k => some k ≠ v.ownBlock) x.1 (trC x.1 x.2) :=
  k29_mkM _ _ _ x.1 (Kd.R_mono (Kd.R_bound h.acc) (fun k hk he => by
    obtain ⟨_, _, _, q, hq, cells, hc⟩ := hk
    have h1 : Typed Y k 29 := row_typed h.row he.symm
    have h2 : Typed Y k q := ⟨cells, hc⟩
    have h3 := h1.ne h2
    have h4 : q = 33 := by simpa [kAcc, k33, Kd.iso, Kd.pair, Kd.int, Kd.bool, Kd.scalar] using hq
    rw [h4] at h3
    exact absurd h3 (by decide)))

theorem round_end {w0 X Y w4 : World} {B D L : Nat} {r : Loop} {v v1 : Value} {pre : List (Tr × Value)} {x : Tr × Value} (hG : Gather w0 B r D L pre X) (h : RoundStart w0 X Y B D L r v pre x) (hL : w0.heap.size ≤ L)
    (hR : kTr.R 29 w4 w0.heap.size (fun _ => True) v1 (pre.map (·.1) ++ [x.1])) (hg : Y.grownBy w4 v.ownBlock) (hat : v1.ownBlock = v.ownBlock ∨ ∃ b, v1.ownBlock = some b ∧ Y.heap.size ≤ b) :
    Blk w4 B 25 [v] ∧ (w4.setCell ⟨B, 0, none⟩ v1).heap[L]? = some (.loop (Loop.atBusy r)) ∧ Gather w0 B r D L (pre ++ [x]) ((w4.setCell ⟨B, 0, none⟩ v1).putObj L (.loop (Loop.atReady r))) ∧
      Keeps B X ((w4.setCell ⟨B, 0, none⟩ v1).putObj L (.loop (Loop.atReady r))) := by
  have hvt : ∀ k, v.ownBlock = some k → Typed Y k 29 := fun k hk => row_typed h.row hk
  have hBv : some B ≠ v.ownBlock := fun e => absurd ((blk_typed h.out).ne (hvt B e.symm)) (by decide)
  have hLt := (Array.getElem?_eq_some_iff.1 h.busy).1
  have hLv : some L ≠ v.ownBlock := fun e => by
    obtain ⟨c, hc⟩ := hvt L e.symm
    rw [h.busy] at hc
    cases hc
  have hDv : some D ≠ v.ownBlock := fun e => by
    obtain ⟨c, hc⟩ := hvt D e.symm
    rw [h.calls] at hc
    cases hc
  have hLB : L ≠ B := fun e => by have := h.out; unfold Blk at this; rw [← e, h.busy] at this; cases this
  have hDB : D ≠ B := fun e => by have := h.out; unfold Blk at this; rw [← e, h.calls] at this; cases this
  have hDL : D ≠ L := fun e => by have := h.busy; rw [← e, h.calls] at this; cases this
  have hB4 : Blk w4 B 25 [v] := (hg.block B h.out.lt hBv).trans h.out
  have hL4 : (w4.setCell ⟨B, 0, none⟩ v1).heap[L]? = some (.loop (Loop.atBusy r)) := (Below.heap_setCell w4 _ v1 L hLB).trans ((hg.block L hLt hLv).trans h.busy)
  have hD4 : (w4.setCell ⟨B, 0, none⟩ v1).heap[D]? = some (.deferred (some [])) := (Below.heap_setCell w4 _ v1 D hDB).trans ((hg.block D (Array.getElem?_eq_some_iff.1 h.calls).1 hDv).trans h.calls)
  have hsz : (w4.setCell ⟨B, 0, none⟩ v1).heap.size = w4.heap.size := by simp [World.setCell]
  have hB5 : Blk (w4.setCell ⟨B, 0, none⟩ v1) B 25 [v1] := hB4.set 0 v1
  have hB6 := blk_loop hB5 hL4 (.loop (Loop.atReady r))
  have hold : ∀ k, k < X.heap.size → k ≠ L → k ≠ B → some k ≠ v.ownBlock → ((w4.setCell ⟨B, 0, none⟩ v1).putObj L (.loop (Loop.atReady r))).heap[k]? = X.heap[k]? := fun k hk h1 h2 h3 =>
    (World.putObj_heap_other h1).trans ((Below.heap_setCell w4 _ v1 k h2).trans ((hg.block k (by rw [h.size]; omega) h3).trans (h.old k hk h1)))
  obtain ⟨inner, ho⟩ := Kd.R_own h.row
  obtain ⟨u, hu, _⟩ := hG.out.row
  have huv : u = v := by
    have h1 := h.old B hu.lt (Ne.symm hLB)
    have h2 : Blk Y B 25 [u] := h1.trans hu
    have h3 := h2.symm.trans h.out
    injection h3 with h3
    injection h3 with h3
    simpa using h3
  subst huv
  have hout : outRow X B = u.ownBlock := by unfold outRow; rw [hu.cell 0 _ rfl]; rfl
  have hout' : outRow ((w4.setCell ⟨B, 0, none⟩ v1).putObj L (.loop (Loop.atReady r))) B = v1.ownBlock := by unfold outRow; rw [hB6.cell 0 _ rfl]; rfl
  refine ⟨hB4, hL4, ⟨⟨⟨v1, hB6, ?_⟩, ⟨?_, ?_, ?_, ?_, fun k hk => ?_⟩, hG.out.low⟩, ⟨World.putObj_heap_same (Array.getElem?_eq_some_iff.1 hL4).1, (World.putObj_heap_other hDL).trans hD4⟩⟩, ⟨fun k T hk h1 h2 => ?_, fun k hk => ?_, ?_⟩⟩
  · rw [List.map_append]
    exact R_loop (Kd.R_set hR hB4 (by intro q hq; rintro rfl; revert hq; decide) 0 v1) hL4 _
  · exact hg.os.trans (h.os.trans hG.out.below.os)
  · exact hg.tape.trans (h.tape.trans hG.out.below.tape)
  · exact hg.output.trans (h.output.trans hG.out.below.output)
  · have h1 := hG.out.below.size
    have h2 := hg.size
    have h3 := h.size
    simp only [World.putObj_size]
    rw [hsz]
    omega
  · have h1 := hG.out.below.size
    have h2 := hG.out.low
    exact (hold k (by omega) (by omega) (by omega) (fun e => by have := own_base ho k e.symm; omega)).trans (hG.out.below.block k hk)
  · refine hold k (typed_lt hk) (fun e => ?_) h1 (fun e => h2 (hout.trans e.symm))
    obtain ⟨c, hc⟩ := hk
    rw [e, hG.loop.made] at hc
    cases hc
  · rw [hout'] at hk
    rcases hat with hat | ⟨b, hb, hge⟩
    · exact .inl (hout.trans (hat.symm.trans hk))
    · rw [hb] at hk
      injection hk with hk
      have := h.size
      exact .inr (by omega)
  · have h2 := hg.size
    have h3 := h.size
    simp only [World.putObj_size]
    rw [hsz]
    omega

theorem R_calls {α : Type} {d : Kd α} {e : Nat} {W : World} {base : Nat} {v : Value} {xs : List α} (h : d.R e W base (fun _ => True) v xs) {D : Nat} {ds : Option (List Deferred)} (hl : W.heap[D]? = some (.deferred ds)) (o : Obj) : d.R e (W.putObj D o) base (fun _ => True) v xs :=
  Kd.R_mono (Kd.R_move (Kd.R_bound h) (fun k hk => World.putObj_heap_other (fun e => by
    obtain ⟨_, _, _, q, _, cells, hc⟩ := hk
    rw [e, hl] at hc
    cases hc))) (fun _ _ => trivial)
theorem all_end {w0 W : World} {B D L : Nat} {r : Loop} {v : Value} {xs : List (Tr × Value)} {o : Obj} (hLR : LoopReady r D L W) (hG : GatherOut w0 B xs W) (hv : Blk W B 25 [v]) (hR : kTr.R 29 W w0.heap.size (fun _ => True) v (xs.map (·.1))) (hD : w0.heap.size ≤ D ∧ w0.heap.size ≤ L) :
    Blk (W.putObj L o) B 25 [v] ∧ (W.putObj L o).heap[D]? = some (.deferred (some [])) ∧ kTr.R 29 ((W.putObj L o).putObj D (.deferred none)) w0.heap.size (fun _ => True) v (xs.map (·.1)) ∧ Below w0.heap.size w0 ((W.putObj L o).putObj D (.deferred none)) := by
  have hDL : D ≠ L := fun e => by have := hLR.made; rw [← e, hLR.calls] at this; cases this
  have h2 := (World.putObj_heap_other (o := o) hDL).trans hLR.calls
  refine ⟨blk_loop hv hLR.made o, h2, R_calls (R_loop hR hLR.made o) h2 _, ⟨hG.below.os, hG.below.tape, hG.below.output, by have := hG.below.size; simpa using this, fun k hk => ?_⟩⟩
  exact (World.putObj_heap_other (by omega)).trans ((World.putObj_heap_other (by omega)).trans (hG.below.block k hk))

set_option maxHeartbeats 1600000 in
set_option maxRecDepth 100000 in
theorem all_any (w : World) (A : Option Addr) (c : Nat) (l : List Ev) (hC : kEv.C w A l.length l) (hl : l.length ≤ 1000000000) (hok : ∀ e ∈ l, EvOk e) (askf : Nat) (askl : Array Value) (ask : Tr → Bool)
    (heg : ∀ args w, (callFunc askf args).run Try.prog w = .ok (.enter askf args) w)
    (hask : ∀ W base b t row, (∀ k T, Typed w k T → W.heap[k]? = w.heap[k]?) → TryAt W base b t row → Calls Try.prog askf (#[.pointer (some ⟨b, 0, none⟩)] ++ askl) W (fun e W' => e = .returned (.bool (ask t)) ∧ Below W.heap.size W W')) :
    Calls Try.prog 51 #[.slice A l.length c, .func (.func askf) #[] askl] w
      fun e W' => ∃ v, e = .returned v ∧ kTr.R 29 W' w.heap.size (fun _ => True) v (((readM l).getD []).filter ask) ∧ Below w.heap.size w W' := by
  have HC := Veil.mk hC
  have HL := Veil.mk hl
  have HO := Veil.mk hok
  have HAS := Veil.mk hask
  clear hC hl hok hask
  refine (callsIn_wide (n := 6)).1 ?_
  refine callsIn_of_wp_marks Try.func51 rfl trivial ?_ rfl
  simp only [Try.ntmps51, List.size_toArray, List.length_cons, List.length_nil, Nat.reduceAdd, Nat.reduceSub, Array.replicate_succ, Array.replicate_zero, List.push_toArray, List.append_toArray, List.nil_append, List.cons_append]
  gi_wp2_with (first | (refine ⟨trivial, ?_⟩; gi_at_call 75; refine (callsIn_wide.2 (those_any _ A l.length c askf askl)).mono ?_; rintro e w1 ⟨rfl, rfl⟩))
  have HF := Veil.mk (all_start w A l.length c askf askl)
  generalize ((w.alloc (.cells #[.slice none 0 0] 25)).alloc (.cells #[.slice A l.length c] 22)).alloc (.cells #[.func (.func askf) #[] askl] 86) = w3 at *
  refine wpIn_rangeFunc_all (gf := 94) (lb := #[.pointer (some ⟨w.heap.size + 1, 0, none⟩), .pointer (some ⟨w.heap.size + 1 + 1, 0, none⟩)]) rfl (by omega) rfl trivial (enters_of Try.func94 (by kernel_rfl) rfl)
    (Z := fun W => ∃ xs : List (Tr × Value), xs.map (·.1) = ((readM l).getD []).filter ask ∧ GatherOut w w.heap.size xs W) ?_ ?_
  · intro r W hfn htm hps has hbd hLR hbW hsz
    have HG0 : Gather w w.heap.size r w3.heap.size (w3.heap.size + 1) [] W := ⟨⟨⟨.slice none 0 0, HF.out.out.below hbW HF.out.out.lt, Kd.R_nil _ _ _ _ _⟩, HF.out.below.trans (hbW.mono HF.out.below.size), Nat.le_refl _⟩, hLR⟩
    have hkey := those1_any 5 W A c l (Kd.C_below HC.out HG0.out.below) HL.out HO.out (w3.heap.size + 1) w.heap.size (w.heap.size + 1) (w.heap.size + 1 + 1) _ _ askf askl ask (by have := HF.out.size; have := hbW.size; omega) (by omega) (by omega) (blk_typed (HF.out.l.below hbW HF.out.l.lt)) (blk_typed (HF.out.ask.below hbW HF.out.ask.lt))
      ((HF.out.l.below hbW HF.out.l.lt).cell 0 _ rfl) ((HF.out.ask.below hbW HF.out.ask.lt).cell 0 _ rfl) (by unfold outRow; rw [(HF.out.out.below hbW HF.out.out.lt).cell 0 _ rfl]; rfl) heg ?hask (Gather w w.heap.size r w3.heap.size (w3.heap.size + 1)) (fun pre X Y h hb => h.step hb) ?hround HG0
    · refine hkey.mono ?_
      rintro e W2 ⟨he, xs, hxs, hG⟩
      exact ⟨he, hG.loop, xs, hxs, hG.out⟩
    case hask =>
      intro X b t row hS hT
      refine HAS.out X _ b t row (fun k T hk => ?_) hT
      have hk' := typed_lt hk
      have hW0 := HG0.out.below.block k hk'
      rw [hS k T (by obtain ⟨cc, hc⟩ := hk; exact ⟨cc, hW0.trans hc⟩) (by omega)]
      exact hW0
    case hround =>
      rintro pre ⟨t, row⟩ X hlen hJ hacc
      dsimp only at hacc
      obtain ⟨A8, c8, rfl, _, _⟩ := Kd.R_reads hacc
      have HJ := Veil.mk hJ
      have HAC := Veil.mk hacc
      have HLen := Veil.mk hlen
      clear hJ hacc hlen
      refine yieldAt_of (r := r) trivial HJ.out.loop.made (by rw [hps]; rfl) ?_
      rw [has, hbd, hps, htm]
      dsimp only [trC]
      gi_wp2_with fail
      refine ⟨(Below.heap_alloc _ _ _ (Array.getElem?_eq_some_iff.1 HJ.out.loop.made).1).trans HJ.out.loop.made, ?_⟩
      have hrow := HJ.out.out.row
      obtain ⟨v, hv, hR⟩ := hrow
      obtain ⟨A0, c0, rfl, _, _⟩ := Kd.R_reads hR
      rw [List.length_map] at hv hR
      have hB := (round_start (x := (t, .slice A8 t.f8.length c8)) HJ.out hv hR (Kd.R_lower HAC.out HG0.out.below.size) (by have := HF.out.size; omega))
      dsimp only [trC] at hB
      have HB := Veil.mk hB
      clear hB
      generalize (X.alloc (.cells #[.int .i64 t.f0, .int .i64 t.f1, .int .i64 t.f2, .int .i64 t.f3, .int .i64 t.f4, .int .i64 t.f5, .int .i64 t.f6, .bool t.f7, .slice A8 t.f8.length c8] 29)).putObj (w3.heap.size + 1) (.loop (Loop.atBusy r)) = Y at *
      clear hv hR
      have b0 := HB.out.out.cell 0 _ rfl
      have f0 := HB.out.out.free 0
      have t0 := HB.out.t.cell 0 _ rfl
      have t1 := HB.out.t.cell 1 _ rfl
      have t2 := HB.out.t.cell 2 _ rfl
      have t3 := HB.out.t.cell 3 _ rfl
      have t4 := HB.out.t.cell 4 _ rfl
      have t5 := HB.out.t.cell 5 _ rfl
      have t6 := HB.out.t.cell 6 _ rfl
      have t7 := HB.out.t.cell 7 _ rfl
      have t8 := HB.out.t.cell 8 _ rfl
      dsimp only at t0 t1 t2 t3 t4 t5 t6 t7 t8
      have hbl : ((pre.map (·.1)).length + 1) * 88 ≤ 140737488355328 := by have := HL.out; have := HLen.out; rw [List.length_map]; omega
      have hbase : w.heap.size ≤ Y.heap.size := by have := HB.out.size; have := HJ.out.out.below.size; omega
      have HA := Veil.mk (And.intro hbl (And.intro hbase (round_elem HB.out)))
      clear hbl hbase
      gi_wp2_with (first | (gi_at_builtin; go_must (refine R_appendIn kTr w.heap.size rfl (.tmp 11) (.tmp 13) 25 29 (.agg #[.int .i64 0, .int .i64 0, .int .i64 0, .int .i64 0, .int .i64 0, .int .i64 0, .int .i64 0, .bool false, .slice none 0 0]) 88 rfl Try.underlying25 info29 rfl (Nat.succ_pos 8) (Nat.succ_pos 87) (.slice A0 pre.length c0) (pre.map (·.1)) t _ (fun _ => True) (fun k => some k ≠ (Value.slice A0 pre.length c0).ownBlock) ?hs ?hx ?hp (fun _ h => ⟨trivial, h⟩) (fun _ _ => trivial) ?ho ?hb ?hl ?_); go_must (case hs => rfl); go_must (case hx => rfl); go_must (case ho => exact HB.out.row); go_must (case hb => exact HA.out.2.1); go_must (case hl => exact HA.out.1); go_must (case hp => exact HA.out.2.2)))
      intro v1 w4 hR4 hg4 hat4
      have HE := Veil.mk (round_end HJ.out HB.out (by have := HF.out.below.size; omega) hR4 hg4 hat4)
      have b0 := HE.out.1.cell 0 _ rfl
      have f0 := HE.out.1.free 0
      obtain ⟨A9, c9, rfl, _, _⟩ := Kd.R_reads hR4
      clear hR4 hg4 hat4
      gi_wp2
      have hfin := HE.out.2
      rw [show (pre.map (·.1) ++ [t]).length = pre.length + 1 from by simp] at hfin
      exact hfin
  · rintro r W hLR ⟨xs, hxs, hG⟩
    have hrow := hG.row
    obtain ⟨v, hv, hR⟩ := hrow
    have HE := Veil.mk (all_end hLR hG hv hR (o := .loop (Loop.atEnd r)) (by have := HF.out.below.size; omega))
    have HXS := Veil.mk hxs
    clear hLR hG hv hR hxs
    have b0 := HE.out.1.cell 0 _ rfl
    obtain ⟨A9, c9, rfl, _, _⟩ := Kd.R_reads HE.out.2.2.1
    gi_wp2
    refine ⟨by simp, .inl ⟨_, _, rfl, run_takeDeferred HE.out.2.1, ?_⟩⟩
    exact ⟨_, results_tmp rfl _ _ _, _, rfl, by have h := HE.out.2.2.1; rw [List.length_map] at h; rw [← HXS.out]; exact h, HE.out.2.2.2⟩
end Go.Proofs.Ytjmnbbflahacoaa.Hist
/- hist, twelfth part: Right, Tries, Of, Before. No condition. -/
namespace Go.Proofs.Ytjmnbbflahacoaa.Hist
open Go.RowKit Go.ChangeMaps Go.Maps Go.Proofs.Ytjmnbbflahacoaa.Mem Go.Proofs.Ytjmnbbflahacoaa.PHistTells Go.Proofs.YtjmnbbflahacoaaW.PrintWords
set_option linter.unusedVariables false
set_option linter.unusedSimpArgs false

def rightM (l : List Ev) : Bool := (readM l).isSome
def triesM (l : List Ev) : List Tr := (readM l).getD []
set_option maxHeartbeats 1600000 in
set_option maxRecDepth 100000 in
theorem right_any (w : World) (A : Option Addr) (c : Nat) (l : List Ev) (hC : kEv.C w A l.length l) (hl : l.length ≤ 1000000000) (hok : ∀ e ∈ l, EvOk e) :
    Calls Try.prog 20 #[.slice A l.length c] w fun e w' => e = .returned (.bool (rightM l)) ∧ Below w.heap.size w w' := by
  have HR := Veil.mk (read_any w A c l hC hl hok)
  clear hC hl hok
  obtain ⟨r, hr⟩ : ∃ r, rightM l = r := ⟨_, rfl⟩
  have hp : Veil (∀ ed w', ReadPost w l ed w' → ∃ v, ed = .returned (.tuple #[.pointer v, .bool r]) ∧ Below w.heap.size w w') := ⟨fun ed w' h => by
    unfold ReadPost at h
    rw [← hr]
    unfold rightM
    cases hm : readM l with
    | none => rw [hm] at h; exact ⟨_, h.2, h.1⟩
    | some ts => rw [hm] at h; exact ⟨_, h.2.1, h.1⟩⟩
  rw [hr]
  clear hr
  go_enter Try.func20, Try.ntmps20
  go_wp2_with (first | (go_at_call 50; refine HR.out.mono ?_; intro ed w2 h; have h' := hp.out ed w2 h; obtain ⟨v, rfl, hb⟩ := h'; have HB2 := Veil.mk hb; clear h hb))
  go_ret
  exact ⟨rfl, HB2.out⟩

end Go.Proofs.Ytjmnbbflahacoaa.Hist
/- hist, thirteenth part: the document's example. No condition. -/
namespace Go.Proofs.Ytjmnbbflahacoaa.Hist
open Go.RowKit Go.ChangeMaps Go.Maps Go.Proofs.Ytjmnbbflahacoaa.Mem Go.Proofs.Ytjmnbbflahacoaa.PHistTells Go.Proofs.YtjmnbbflahacoaaW.PrintWords
set_option linter.unusedVariables false
set_option linter.unusedSimpArgs false

theorem evC_length (e : Ev) : (evC e).length = 7 := rfl
theorem evs_at : ∀ (l : List Ev) (j : Nat) (e : Ev), l[j]? = some e → ∀ i, i < 7 → (l.flatMap evC)[j * 7 + i]? = (evC e)[i]?
  | [], j, e, h, _, _ => by simp at h
  | x :: l, 0, e, h, i, hi => by
    simp only [List.getElem?_cons_zero, Option.some.injEq] at h
    subst h
    rw [List.flatMap_cons, Nat.zero_mul, Nat.zero_add, List.getElem?_append_left (by rw [evC_length]; exact hi)]
  | x :: l, j + 1, e, h, i, hi => by
    rw [List.getElem?_cons_succ] at h
    rw [List.flatMap_cons, List.getElem?_append_right (by rw [evC_length]; omega), evC_length, show (j + 1) * 7 + i - 7 = j * 7 + i by omega]
    exact evs_at l j e h i hi
theorem ev_lit {w : World} {b : Nat} {l : List Ev} (h : Blk w b 31 (l.flatMap evC)) (hl : l.length ≤ 1000000000) : kEv.C w (some ⟨b, 0, none⟩) l.length l := by
  refine ⟨rfl, by omega, fun _ => ⟨⟨b, 0, none⟩, rfl, fun j p hj => ⟨evC p, rfl, k31_mk w p, fun i u hu => ?_⟩⟩⟩
  have hi : i < 7 := (List.getElem?_eq_some_iff.1 hu).1
  have := h.cell (j * 7 + i) u (by rw [evs_at l j p hj i hi]; exact hu)
  show w.cell? ((⟨b, 0, none⟩ : Addr).add (j * 7 + i)) = some u
  unfold Addr.add
  split
  · rename_i h0; rw [h0] at this; exact this
  · simpa using this

end Go.Proofs.Ytjmnbbflahacoaa.Hist
