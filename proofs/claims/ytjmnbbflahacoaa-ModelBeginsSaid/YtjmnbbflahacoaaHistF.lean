/- hist, sixth part: a try begins. No condition. -/
import Derived.Test.YtjmnbbflahacoaaHistE
import Derived.Test.YtjmnbbflahacoaaRegion
import Derived.Outline
namespace Go.Proofs.Ytjmnbbflahacoaa.Hist
open Go.RowKit Go.ChangeMaps Go.Maps Go.Proofs.Ytjmnbbflahacoaa.Mem Go.Proofs.Ytjmnbbflahacoaa.PHistTells Go.Proofs.YtjmnbbflahacoaaW.PrintWords
set_option linter.unusedVariables false
set_option linter.unusedSimpArgs false

theorem below_drewN {w : World} (n : Nat) : Below w.heap.size w (w.drewN n) := ⟨rfl, rfl, rfl, Nat.le_refl _, fun _ _ => rfl⟩
theorem _root_.Go.RowKit.Below.drewN {B : Nat} {a w : World} (h : Below B a w) (n : Nat) : Below B a (w.drewN n) := ⟨h.os, h.tape, h.output, h.size, h.block⟩
theorem MapAt.below {P : Program} {K : TypeId} {w w' : World} {b : Nat} {m : Value → Option Value} (h : MapAt P K w b m) (hb : Below w.heap.size w w') : MapAt P K w' b m := h.same (hb.block b h.lt)
theorem TryAt.below {w w' : World} {base b : Nat} {t : Tr} {row : Value} (h : TryAt w base b t row) (hb : Below w.heap.size w w') : TryAt w' base b t row :=
  h.upd (Upd.ofBelow hb (fun _ => False)) (fun h => h) (fun _ _ h => h)
theorem BookAt.below {w w' : World} {base bb : Nat} {bs : List Nat} {ro : Nat → Value} {ts : List Tr} {rv : Value} {ml mc : Nat} (h : BookAt w base bb bs ro ts rv ml mc) (hb : Below w.heap.size w w') : BookAt w' base bb bs ro ts rv ml mc :=
  ⟨h.blk.below hb h.blk.lt, h.low, Kd.R_below h.row hb, h.len, fun k b t hk ht => (h.tries k b t hk ht).below hb, h.nodup, h.apart, MapAt.below h.lastAt hb, MapAt.below h.countAt hb, h.lowl, h.lowc, h.maps⟩

/-- Block k's cells are of the type T. -/
def Typed (w : World) (k T : Nat) : Prop := ∃ cells, w.heap[k]? = some (.cells cells T (0, 0))
theorem Typed.ne {w : World} {k T T' : Nat} (h : Typed w k T) (h' : Typed w k T') : T = T' := by
  obtain ⟨c, h⟩ := h
  obtain ⟨c', h'⟩ := h'
  rw [h] at h'
  injection h' with h'
  injection h' with _ h'
theorem Typed.not_map {w : World} {k T : Nat} {P : Program} {K : TypeId} {m : Value → Option Value} (h : Typed w k T) (h' : MapAt P K w k m) : False := by
  obtain ⟨c, h⟩ := h
  obtain ⟨es, clock, h', _⟩ := h'
  rw [h] at h'
  cases h'
theorem blk_typed {w : World} {b T : Nat} {cs : List Value} (h : Blk w b T cs) : Typed w b T := ⟨_, h⟩
theorem row_typed {α : Type} {d : Kd α} {e : Nat} {w : World} {base : Nat} {ok : Nat → Prop} {v : Value} {xs : List α} (h : d.R e w base ok v xs) {k : Nat} (hk : v.ownBlock = some k) : Typed w k e := by
  obtain ⟨inner, ho⟩ := Kd.R_own h
  exact own_typed ho k hk
/-- A try stands where no block of its two types turns. -/
theorem TryAt.stay {S : Nat → Prop} {w w' : World} {base b : Nat} {t : Tr} {row : Value} (h : TryAt w base b t row) (hu : Upd S w w')
    (hS : ∀ k, S k → ¬ Typed w k 29 ∧ ¬ Typed w k 33) : TryAt w' base b t row :=
  h.upd hu (fun hs => (hS _ hs).1 (blk_typed h.blk)) (fun k hk hs => (hS _ hs).2 (row_typed h.acc hk))

theorem not_typed {w : World} {k T : Nat} (h : Typed w k T) (h1 : T ≠ 29) (h2 : T ≠ 33) : ¬ Typed w k 29 ∧ ¬ Typed w k 33 := ⟨fun h' => h1 (h.ne h'), fun h' => h2 (h.ne h')⟩
theorem not_typed_map {w : World} {k : Nat} {P : Program} {K : TypeId} {m : Value → Option Value} (h : MapAt P K w k m) : ¬ Typed w k 29 ∧ ¬ Typed w k 33 := ⟨fun h' => h'.not_map h, fun h' => h'.not_map h⟩

theorem lastOf_snoc (th : Int) (ts : List Tr) (t : Tr) : lastOf th (ts ++ [t]) = if t.f0 == th then some ts.length else lastOf th ts := by
  unfold lastOf
  rw [List.map_append, List.map_cons, List.map_nil, lastIx_snoc, List.length_map]
theorem countOf_snoc (th tx : Int) (ts : List Tr) (t : Tr) : countOf th tx (ts ++ [t]) = countOf th tx ts + (if t.f0 == th && t.f1 == tx then 1 else 0) := by
  unfold countOf
  rw [List.countP_append, List.countP_singleton]

theorem lastM_snoc (bs : List Nat) (ts : List Tr) (t : Tr) (b : Nat) (hl : bs.length = ts.length) (x : Value) : lastM (bs ++ [b]) (ts ++ [t]) x = put (lastM bs ts) (.int .i64 t.f0) (.pointer (some ⟨b, 0, none⟩)) x := by
  by_cases h : x = .int .i64 t.f0
  · subst h
    rw [put_same, lastM_eq, lastOf_snoc, if_pos (by simp)]
    simp [← hl]
  · rw [put_other _ _ h]
    unfold lastM
    cases hk : key1 x with
    | none => rfl
    | some th =>
      have hx := key1_of hk
      subst hx
      have hne : ¬ (t.f0 == th) = true := by
        intro e
        rw [beq_iff_eq] at e
        exact h (by rw [e])
      simp only [Option.bind_some]
      rw [lastOf_snoc, if_neg hne]
      cases hl2 : lastOf th ts with
      | none => rfl
      | some k =>
        have := lastOf_lt hl2
        simp only [Option.bind_some]
        rw [List.getElem?_append_left (by omega)]
theorem countM_snoc (ts : List Tr) (t : Tr) (x : Value) : countM (ts ++ [t]) x = put (countM ts) (.agg #[.int .i64 t.f0, .int .i64 t.f1]) (.int .i64 ((countOf t.f0 t.f1 ts : Nat) + 1 : Int)) x := by
  by_cases h : x = .agg #[.int .i64 t.f0, .int .i64 t.f1]
  · subst h
    rw [put_same, countM_eq, countOf_snoc]
    simp
  · rw [put_other _ _ h]
    unfold countM
    cases hk : key2 x with
    | none => rfl
    | some p =>
      obtain ⟨th, tx⟩ := p
      have hx := key2_of hk
      subst hx
      have hne : ¬ (t.f0 == th && t.f1 == tx) = true := by
        intro e
        rw [Bool.and_eq_true, beq_iff_eq, beq_iff_eq] at e
        exact h (by rw [e.1, e.2])
      simp only [Option.bind_some]
      rw [countOf_snoc, if_neg hne, Nat.add_zero]

/-- A try has begun: the book. -/
theorem begin_close {w w3 w9 : World} {base bb : Nat} {bs : List Nat} {ro : Nat → Value} {ts : List Tr} {rv rv' : Value} {ml mc tb : Nat} {i : Int} {e : Ev} (HB : BookAt w base bb bs ro ts rv ml mc) (hbase : base ≤ w.heap.size)
    (HU : Upd (fun k => rv.ownBlock = some k) w w3) (hrow : kPtr.R 85 w3 base (fun _ => True) rv' (bs ++ [tb])) (htb : Blk w3 tb 29 (trC (newTr i e) (.slice none 0 0))) (hnew : w.heap.size ≤ tb)
    (HU9 : Upd (fun k => k = bb ∨ k = ml ∨ k = mc) w3 w9) (blk9 : Blk w9 bb 124 [rv', .map (some ml), .map (some mc)])
    (ml9 : MapAt Try.prog 3 w9 ml (put (lastM bs ts) (.int .i64 e.f1) (.pointer (some ⟨tb, 0, none⟩))))
    (mc9 : MapAt Try.prog 173 w9 mc (put (countM ts) (.agg #[.int .i64 e.f1, .int .i64 e.f2]) (.int .i64 ((countOf e.f1 e.f2 ts : Nat) + 1 : Int)))) :
    BookAt w9 base bb (bs ++ [tb]) (fun x => if x = tb then .slice none 0 0 else ro x) (ts ++ [newTr i e]) rv' ml mc := by
  have hold : ∀ b, b ∈ bs → b < w.heap.size := fun b hb => by
    obtain ⟨k, hk⟩ := List.getElem?_of_mem hb
    have hlt : k < ts.length := by rw [← HB.len]; exact (List.getElem?_eq_some_iff.1 hk).1
    exact (HB.tries k b _ hk (List.getElem?_eq_getElem hlt)).blk.lt
  have hT3 : ∀ k, (k = bb ∨ k = ml ∨ k = mc) → ¬ Typed w3 k 29 ∧ ¬ Typed w3 k 33 := by
    have hnb : ∀ k, Typed w k 124 → ¬ rv.ownBlock = some k := fun k h he => absurd (h.ne (row_typed HB.row he)) (by decide)
    rintro k (rfl | rfl | rfl)
    · exact not_typed (blk_typed (HB.blk.upd HU (hnb _ (blk_typed HB.blk)))) (by decide) (by decide)
    · exact not_typed_map (HB.lastAt.upd HU (fun he => (row_typed HB.row he).not_map HB.lastAt))
    · exact not_typed_map (HB.countAt.upd HU (fun he => (row_typed HB.row he).not_map HB.countAt))
  have hS1 : ∀ k, rv.ownBlock = some k → ¬ Typed w k 29 ∧ ¬ Typed w k 33 := fun k hk => not_typed (row_typed HB.row hk) (by decide) (by decide)
  refine ⟨blk9, HB.low, ?_, by simp [HB.len], ?_, ?_, ?_, ml9.ext (fun x => lastM_snoc bs ts (newTr i e) tb HB.len x), mc9.ext (fun x => countM_snoc ts (newTr i e) x), HB.lowl, HB.lowc, HB.maps⟩
  · refine Kd.R_mono (Kd.R_step (Kd.R_tight (by rfl) hrow) (fun k hk hlt => HU9.block k hlt ?_)) (fun _ _ => trivial)
    have hty := row_typed hrow hk.symm
    rintro (rfl | rfl | rfl)
    · exact absurd (hty.ne (blk_typed (HB.blk.upd HU (fun he => absurd ((blk_typed HB.blk).ne (row_typed HB.row he)) (by decide))))) (by decide)
    · exact hty.not_map (HB.lastAt.upd HU (fun he => (row_typed HB.row he).not_map HB.lastAt))
    · exact hty.not_map (HB.countAt.upd HU (fun he => (row_typed HB.row he).not_map HB.countAt))
  · intro k b t hk ht
    rcases Nat.lt_or_ge k bs.length with hlt | hge
    · rw [List.getElem?_append_left hlt] at hk
      rw [List.getElem?_append_left (by rw [← HB.len]; exact hlt)] at ht
      have hb := hold b (List.mem_of_getElem? hk)
      rw [if_neg (by omega)]
      exact ((HB.tries k b t hk ht).stay HU hS1).stay HU9 hT3
    · rw [List.getElem?_append_right hge] at hk
      rw [List.getElem?_append_right (by rw [← HB.len]; exact hge)] at ht
      have hk0 : k - bs.length = 0 := by
        have := (List.getElem?_eq_some_iff.1 hk).1
        simp at this
        omega
      rw [hk0] at hk
      rw [← HB.len, hk0] at ht
      simp only [List.getElem?_cons_zero, Option.some.injEq] at hk ht
      subst hk ht
      rw [if_pos rfl]
      have h3 : TryAt w3 base tb (newTr i e) (.slice none 0 0) := ⟨htb, by omega, Kd.R_nil _ _ _ _ _⟩
      exact h3.stay HU9 hT3
  · rw [List.nodup_append]
    refine ⟨HB.nodup, by simp, fun a ha b hb => ?_⟩
    simp only [List.mem_singleton] at hb
    have := hold a ha
    omega
  · intro b b' hb hb' hne k hk
    by_cases e1 : b = tb
    · rw [if_pos e1] at hk; cases hk
    · rw [if_neg e1] at hk
      by_cases e2 : b' = tb
      · rw [if_pos e2]; intro h; cases h
      · rw [if_neg e2]
        simp only [List.mem_append, List.mem_singleton] at hb hb'
        exact HB.apart b b' (hb.resolve_right e1) (hb'.resolve_right e2) hne k hk

theorem info85 : (Try.prog.info? 85).map (fun i => (i.zero, i.size, i.bytes)) = some (some (.pointer none), 1, 8) := by kernel_rfl

theorem begin_cells {w w1 w3 : World} {base bb : Nat} {bs : List Nat} {ro : Nat → Value} {ts : List Tr} {rv : Value} {ml mc : Nat} {T : Nat} {zs : Array Value} {ev kv : List Value} {t0 t1 : Nat}
    (hr : ∀ k, rv.ownBlock = some k → k < w.heap.size) (HW : Below w.heap.size w w1) (HB : BookAt w1 base bb bs ro ts rv ml mc) (hg : (w1.alloc (.cells zs T)).grownBy w3 rv.ownBlock)
    (HEv : Blk w1 w.heap.size t0 ev) (HK : Blk w1 (w.heap.size + 1) t1 kv) :
    Blk w3 bb 124 [rv, .map (some ml), .map (some mc)] ∧ Blk w3 w.heap.size t0 ev ∧ Blk w3 (w.heap.size + 1) t1 kv ∧ Blk w3 w1.heap.size T zs.toList ∧
      MapAt Try.prog 3 w3 ml (lastM bs ts) ∧ MapAt Try.prog 173 w3 mc (countM ts) ∧ Upd (fun k => rv.ownBlock = some k) w1 w3 := by
  have hu : Upd (fun k => rv.ownBlock = some k) w1 w3 := ((Upd.refl _ _).alloc _).grown hg (fun k hk _ => hk)
  refine ⟨HB.blk.upd hu (fun he => absurd ((blk_typed HB.blk).ne (row_typed HB.row he)) (by decide)), HEv.upd hu (fun he => by have := hr _ he; omega), HK.upd hu (fun he => by have := hr _ he; omega), ?_,
    HB.lastAt.upd hu (fun he => (row_typed HB.row he).not_map HB.lastAt), HB.countAt.upd hu (fun he => (row_typed HB.row he).not_map HB.countAt), hu⟩
  exact (hg.block _ (by simp) (fun he => by have := hr _ he.symm; have := HW.size; omega)).trans (Blk.new w1 zs T)

/-- What stands where begin's maps are told. -/
structure BeginAt (w : World) (bb ml mc e k : Nat) (rv : Value) (ev kv : List Value) (l m : Value → Option Value) : Prop where
  blk : Blk w bb 124 [rv, .map (some ml), .map (some mc)]
  ev : Blk w e 31 ev
  kv : Blk w k 173 kv
  last : MapAt Try.prog 3 w ml l
  count : MapAt Try.prog 173 w mc m
theorem begin_store {w1 w3 : World} {base bb : Nat} {bs : List Nat} {ro : Nat → Value} {ts : List Tr} {rv rv1 : Value} {ml mc e k : Nat} {ev kv : List Value} {l m : Value → Option Value} (HB : BookAt w1 base bb bs ro ts rv ml mc)
    (h1 : Blk w3 bb 124 [rv1, .map (some ml), .map (some mc)]) (h2 : Blk w3 e 31 ev) (h3 : Blk w3 k 173 kv) (h4 : MapAt Try.prog 3 w3 ml l) (h5 : MapAt Try.prog 173 w3 mc m) {v : Value} :
    BeginAt (w3.setCell ⟨bb, 0, none⟩ v) bb ml mc e k v ev kv l m :=
  ⟨h1.set 0 v, h2.far (h2.ne h1 (by decide)) _, h3.far (h3.ne h1 (by decide)) _, h4.same (Below.heap_setCell w3 _ v ml (h4.not_blk h1)), h5.same (Below.heap_setCell w3 _ v mc (h5.not_blk h1))⟩
theorem BeginAt.setl {w : World} {bb ml mc e k : Nat} {rv : Value} {ev kv : List Value} {l m l' : Value → Option Value} (h : BeginAt w bb ml mc e k rv ev kv l m) (hne : ml ≠ mc) (o : Obj) (hl : MapAt Try.prog 3 (setBlock w ml o) ml l') : BeginAt (setBlock w ml o) bb ml mc e k rv ev kv l' m :=
  ⟨blk_setBlock h.blk (h.last.not_blk h.blk).symm o, blk_setBlock h.ev (h.last.not_blk h.ev).symm o, blk_setBlock h.kv (h.last.not_blk h.kv).symm o, hl, mapAt_setBlock h.count hne.symm o⟩
theorem BeginAt.setm {w : World} {bb ml mc e k : Nat} {rv : Value} {ev kv : List Value} {l m m' : Value → Option Value} (h : BeginAt w bb ml mc e k rv ev kv l m) (hne : ml ≠ mc) (o : Obj) (hl : MapAt Try.prog 173 (setBlock w mc o) mc m') : BeginAt (setBlock w mc o) bb ml mc e k rv ev kv l m' :=
  ⟨blk_setBlock h.blk (h.count.not_blk h.blk).symm o, blk_setBlock h.ev (h.count.not_blk h.ev).symm o, blk_setBlock h.kv (h.count.not_blk h.kv).symm o, mapAt_setBlock h.last hne o, hl⟩
theorem setBlock_get {w : World} {b : Nat} (h : b < w.heap.size) (o : Obj) : (setBlock w b o).heap[b]? = some o := by simp [setBlock, h]
theorem setBlock_twice (w : World) (b : Nat) (o o' : Obj) : setBlock (setBlock w b o) b o' = setBlock w b o' := by unfold setBlock; simp
theorem BeginAt.set2 {w : World} {bb ml mc e k : Nat} {rv : Value} {ev kv : List Value} {l m l' : Value → Option Value} (h : BeginAt w bb ml mc e k rv ev kv l m) (hne : ml ≠ mc) (o o' : Obj) (hl : MapAt Try.prog 3 (setBlock (setBlock w.drew ml o) ml o') ml l') : BeginAt (setBlock (setBlock w.drew ml o) ml o') bb ml mc e k rv ev kv l' m := by
  rw [setBlock_twice] at hl ⊢
  have hd : BeginAt w.drew bb ml mc e k rv ev kv l m := ⟨h.blk, h.ev, h.kv, h.last.same rfl, h.count.same rfl⟩
  exact hd.setl hne o' hl
theorem BeginAt.set3 {w : World} {bb ml mc e k : Nat} {rv : Value} {ev kv : List Value} {l m m' : Value → Option Value} (h : BeginAt w bb ml mc e k rv ev kv l m) (hne : ml ≠ mc) (o o' : Obj) (hl : MapAt Try.prog 173 (setBlock (setBlock w mc o) mc o') mc m') : BeginAt (setBlock (setBlock w mc o) mc o') bb ml mc e k rv ev kv l m' := by
  rw [setBlock_twice] at hl ⊢
  exact h.setm hne o' hl
theorem begin_S {w : World} {bb e k ml mc t t1 t2 : Nat} {rv : Value} {a0 a1 a2 a3 a4 a5 a6 k0 k1 : Value} (h1 : Blk w bb t [rv, .map (some ml), .map (some mc)]) (h2 : Blk w e t1 [a0, a1, a2, a3, a4, a5, a6]) (h3 : Blk w k t2 [k0, k1]) :
    w.cell? ⟨bb, 1, none⟩ = some (.map (some ml)) ∧ w.cell? ⟨bb, 2, none⟩ = some (.map (some mc)) ∧ w.cell? ⟨e, 1, none⟩ = some a1 ∧ w.cell? ⟨e, 3, none⟩ = some a3 ∧ w.cell? ⟨k, 0, none⟩ = some k0 ∧ w.cell? ⟨k, 1, none⟩ = some k1 :=
  ⟨h1.cell 1 _ rfl, h1.cell 2 _ rfl, h2.cell 1 _ rfl, h2.cell 3 _ rfl, h3.cell 0 _ rfl, h3.cell 1 _ rfl⟩

theorem lastM_at {bs : List Nat} {ts : List Tr} {th : Int} {k b : Nat} (hk : lastOf th ts = some k) (hb : bs[k]? = some b) : (lastM bs ts (.int .i64 th)).getD (.pointer none) = .pointer (some ⟨b, 0, none⟩) := by
  rw [lastM_eq, hk]; simp [hb]
theorem lastM_none {bs : List Nat} {ts : List Tr} {th : Int} (hk : lastOf th ts = none) : (lastM bs ts (.int .i64 th)).getD (.pointer none) = .pointer none := by
  rw [lastM_eq, hk]; rfl
theorem countM_at (ts : List Tr) (th tx : Int) : (countM ts (.agg #[.int .i64 th, .int .i64 tx])).getD (.int .i64 0) = .int .i64 (countOf th tx ts) := by
  rw [countM_eq]
  by_cases h : countOf th tx ts = 0
  · rw [h]; rfl
  · simp [h]

theorem open_of {w : World} {base bb : Nat} {bs : List Nat} {ro : Nat → Value} {ts : List Tr} {rv : Value} {ml mc : Nat} (h : BookAt w base bb bs ro ts rv ml mc) (th : Int) :
    Calls Try.prog 91 #[(lastM bs ts (.int .i64 th)).getD (.pointer none)] w fun e w' => e = .returned (.bool (isOpen ts th)) ∧ w = w' := by
  cases hk : lastOf th ts with
  | none =>
    rw [lastM_none hk]
    have : isOpen ts th = false := by unfold isOpen; rw [hk]
    rw [this]
    exact open_nil w
  | some k =>
    have hlt := lastOf_lt hk
    have hlb : k < bs.length := by rw [h.len]; exact hlt
    rw [lastM_at hk (List.getElem?_eq_getElem hlb)]
    have hT := h.tries k _ _ (List.getElem?_eq_getElem hlb) (List.getElem?_eq_getElem hlt)
    have : isOpen ts th = decide (ts[k].f5 < 0) := by unfold isOpen; rw [hk]; simp [List.getElem?_eq_getElem hlt]
    rw [this]
    exact open_at w _ _ (hT.blk.cell 5 _ rfl)

def beginOk (ts : List Tr) (e : Ev) : Bool := !(isOpen ts e.f1 || !(e.f3 == (countOf e.f1 e.f2 ts : Int) + 1))

set_option maxHeartbeats 1600000 in
set_option maxRecDepth 100000 in
theorem begin_any (w : World) (base bb : Nat) (bs : List Nat) (ro : Nat → Value) (ts : List Tr) (rv : Value) (ml mc : Nat) (i : Int) (e : Ev) (hB : BookAt w base bb bs ro ts rv ml mc) (hl : ts.length ≤ 1000000000) (hbase : base ≤ w.heap.size) (he : EvOk e) :
    Calls Try.prog 90 #[.pointer (some ⟨bb, 0, none⟩), .int .i64 i, evV e] w
      fun ed w' => ed = .returned (.bool (beginOk ts e)) ∧ Below base w w' ∧ (beginOk ts e = true → ∃ bs' ro' rv', BookAt w' base bb bs' ro' (ts ++ [newTr i e]) rv' ml mc) := by
  obtain ⟨A, c, rfl, hrc, hrC⟩ := Kd.R_reads hB.row
  clear hrC
  have hcn : countOf e.f1 e.f2 ts ≤ 1000000000 := Nat.le_trans List.countP_le_length hl
  obtain ⟨n, hn⟩ : ∃ n, countOf e.f1 e.f2 ts = n := ⟨_, rfl⟩
  have hcm := countM_at ts e.f1 e.f2
  rw [hn] at hcn hcm
  unfold evV
  obtain ⟨v, hv⟩ : ∃ v, (lastM bs ts (.int .i64 e.f1)).getD (.pointer none) = v := ⟨_, rfl⟩
  have HB := Veil.mk hB
  have HE := Veil.mk he
  have HL := Veil.mk hl
  have HNB := Veil.mk hcn
  have HBs := Veil.mk hbase
  have HV := Veil.mk hv
  have HN := Veil.mk hn
  have HC := Veil.mk hcm
  have HW := Veil.mk (((Below.refl w.heap.size w).alloc (Nat.le_refl _) (.cells #[.int .i64 e.f0, .int .i64 e.f1, .int .i64 e.f2, .int .i64 e.f3, .int .i64 e.f4, .int .i64 e.f5, .int .i64 e.f6] 31)).alloc (by simp) (.cells #[.int .i64 e.f1, .int .i64 e.f2] 173))
  clear hB he hl hv hcm hn hcn hbase
  cases hop : isOpen ts e.f1 with
  | true =>
    have hOp := Veil.mk hop
    clear hop
    have HB1 := Veil.mk (HB.out.below HW.out)
    have hl1 := fun n => last_look (HB1.out.below (below_drewN n)).lastAt HE.out.w1
    rw [HV.out] at hl1
    have b1 := HB1.out.blk.cell 1 _ rfl
    have HO := fun n => (open_of (HB1.out.below (below_drewN n)) e.f1).mono (fun _ _ h => And.intro h.1 h.2.symm)
    rw [HV.out, hOp.out] at HO
    have HQ := Veil.mk HO
    clear HO
    go_enter Try.func90, Try.ntmps90
    go_wp2_with fail
    go_quiet (first | (go_at_call 91; exact Calls.quiet_of_same (HQ.out _)))
    go_wp2
    go_ret
    have hno : beginOk ts e = false := by unfold beginOk; rw [hOp.out]; rfl
    exact ⟨by rw [hno]; rfl, ((HW.out.mono HBs.out).drewN _), fun h => absurd h (by rw [hno]; decide)⟩
  | false =>
    have hOp := Veil.mk hop
    clear hop
    have HB1 := Veil.mk (HB.out.below HW.out)
    have hl1 := fun n => last_look (HB1.out.below (below_drewN n)).lastAt HE.out.w1
    rw [HV.out] at hl1
    have hl2 := fun n => count_look (HB1.out.below (below_drewN n)).countAt HE.out.w1 HE.out.w2
    rw [HC.out] at hl2
    have b1 := HB1.out.blk.cell 1 _ rfl
    have b2 := HB1.out.blk.cell 2 _ rfl
    have HO := fun n => (open_of (HB1.out.below (below_drewN n)) e.f1).mono (fun _ _ h => And.intro h.1 h.2.symm)
    rw [HV.out, hOp.out] at HO
    have HQ := Veil.mk HO
    clear HO
    have hw1 : IntKind.i64.wrap ((n : Int) + 1) = (n : Int) + 1 := IntWalk.i64_in _ (by have := HNB.out; omega)
    by_cases hat : e.f3 = (n : Int) + 1
    · have e3 : (e.f3 == (n : Int) + 1) = true := beq_iff_eq.2 hat
      clear hat
      go_enter Try.func90, Try.ntmps90
      go_wp2_with fail
      go_quiet (first | (go_at_call 91; exact Calls.quiet_of_same (HQ.out _)))
      have HEv := Veil.mk ((((Blk.new w #[.int .i64 e.f0, .int .i64 e.f1, .int .i64 e.f2, .int .i64 e.f3, .int .i64 e.f4, .int .i64 e.f5, .int .i64 e.f6] 31).alloc (.cells #[.int .i64 e.f1, .int .i64 e.f2] 173))).drewN nq)
      have HK := Veil.mk ((Blk.new (w.alloc (.cells #[.int .i64 e.f0, .int .i64 e.f1, .int .i64 e.f2, .int .i64 e.f3, .int .i64 e.f4, .int .i64 e.f5, .int .i64 e.f6] 31)) #[.int .i64 e.f1, .int .i64 e.f2] 173).drewN nq)
      have HB2 := Veil.mk (HB1.out.below (below_drewN nq))
      have HW2 := Veil.mk (HW.out.drewN nq)
      clear hl1 hl2 b1 b2 HQ HB1 HW hw1
      generalize ((w.alloc (.cells #[.int .i64 e.f0, .int .i64 e.f1, .int .i64 e.f2, .int .i64 e.f3, .int .i64 e.f4, .int .i64 e.f5, .int .i64 e.f6] 31)).alloc (.cells #[.int .i64 e.f1, .int .i64 e.f2] 173)).drewN nq = w1 at *
      have c1 := HEv.out.cell 1 _ rfl
      have c2 := HEv.out.cell 2 _ rfl
      have c3 := HEv.out.cell 3 _ rfl
      have c5 := HEv.out.cell 5 _ rfl
      have b0 := HB2.out.blk.cell 0 _ rfl
      have b0' := fun o => alloc_cell b0 o
      have hrlt : Veil (∀ k, (Value.slice A bs.length c).ownBlock = some k → k < w.heap.size) := ⟨fun k hk => by obtain ⟨inner, ho⟩ := Kd.R_own HB.out.row; exact own_lt ho k hk⟩
      have hk1 : (w.alloc (.cells #[.int .i64 e.f0, .int .i64 e.f1, .int .i64 e.f2, .int .i64 e.f3, .int .i64 e.f4, .int .i64 e.f5, .int .i64 e.f6] 31)).heap.size = w.heap.size + 1 := by simp
      rw [hk1] at HK
      clear hk1
      have hb1 : base ≤ w1.heap.size := Nat.le_trans HBs.out HW2.out.size
      have hbl : (bs.length + 1) * 8 ≤ 140737488355328 := by have := HL.out; have := HB.out.len; omega
      have HA := Veil.mk (And.intro (Kd.R_below HB2.out.row ((Below.refl _ _).alloc (Nat.le_refl _) (.cells #[.int .i64 e.f1, .int .i64 e.f2, .int .i64 e.f3, .int .i64 e.f5, .int .i64 i, .int .i64 (-1), .int .i64 0, .bool false, .slice none 0 0] 29))) (And.intro ((Below.refl base w1).alloc hb1 (.cells #[.int .i64 e.f1, .int .i64 e.f2, .int .i64 e.f3, .int .i64 e.f5, .int .i64 i, .int .i64 (-1), .int .i64 0, .bool false, .slice none 0 0] 29)) (And.intro (Nat.le_trans hb1 (Nat.le_trans (Nat.le_refl _) (by simp) : w1.heap.size ≤ (w1.alloc (.cells #[.int .i64 e.f1, .int .i64 e.f2, .int .i64 e.f3, .int .i64 e.f5, .int .i64 i, .int .i64 (-1), .int .i64 0, .bool false, .slice none 0 0] 29)).heap.size)) hbl)))
      clear hb1 hbl
      go_wp2_with (first | ((with_reducible refine gate_builtin (b := .append) (xs := #[.tmp 49, .tmp 51]) rfl ?_); at_builtin; go_must (refine Kd.R_append kPtr base (w0 := w1) rfl (.tmp 49) (.tmp 51) 122 85 (.pointer none) 8 rfl Try.underlying122 info85 rfl (Nat.le_refl 1) (Nat.succ_pos 7) (.slice A bs.length c) bs w1.heap.size _ (fun _ => True) (fun _ => False) rfl ?hx rfl (fun _ h => h.elim) (fun _ _ => trivial) HA.out.1 HA.out.2.1 HA.out.2.2.1 HA.out.2.2.2 ?_); go_must (case hx => go_simp); go_must (intro v1 w3 hR hB hg hat; clear c1 c2 c3 c5 b0 b0'; have BC := Veil.mk (begin_cells hrlt.out HW2.out HB2.out hg HEv.out HK.out); have HR3 := Veil.mk hR; have hl3 := Kd.R_reads hR; obtain ⟨A1, c1, rfl, hc1, hC1⟩ := hl3; clear hR hB hg hat hc1 hC1; have b0 := BC.out.1.cell 0 _ rfl; have f0 := BC.out.1.free 0)))
      have D4 := begin_store HB2.out BC.out.1 BC.out.2.1 BC.out.2.2.1 BC.out.2.2.2.2.1 BC.out.2.2.2.2.2.1 (v := .slice A1 (bs.length + 1) c1)
      have HU4 := Veil.mk ((Upd.refl (fun k => k = bb ∨ k = ml ∨ k = mc) w3).setCell (p := ⟨bb, 0, none⟩) (fun _ => .inl rfl) (.slice A1 (bs.length + 1) c1))
      generalize w3.setCell ⟨bb, 0, none⟩ (.slice A1 (bs.length + 1) c1) = w4 at *
      have DD := Veil.mk D4
      clear D4 b0 f0
      have hrl := run_entry (z := .pointer none) keyed_thread Try.underlying120 (by intro u; go_simp) (keyOf_thread HE.out.w1) (DD.out.last.same (w' := w4.drew) rfl)
      obtain ⟨v0, st0, o1, hrun1, hst1⟩ := hrl
      have HS1 := Veil.mk hst1
      clear hst1
      refine wp_region_X (fun w' => w'.cell? ⟨bb, 1, none⟩ = some (.map (some ml)) ∧ w'.cell? ⟨bb, 2, none⟩ = some (.map (some mc)) ∧ w'.cell? ⟨w.heap.size, 1, none⟩ = some (.int .i64 e.f1) ∧
        w'.cell? ⟨w.heap.size, 3, none⟩ = some (.int .i64 e.f3) ∧ w'.cell? ⟨w.heap.size + 1, 0, none⟩ = some (.int .i64 e.f1) ∧ w'.cell? ⟨w.heap.size + 1, 1, none⟩ = some (.int .i64 e.f2)) [] (by kernel_rfl) ?_
      have hS0 := begin_S DD.out.blk DD.out.ev DD.out.kv
      refine wpAnyX_take (i := 0) (v := ?_) rfl (by kernel_rfl) (by kernel_rfl) (by kernel_rfl) (by kernel_rfl) (fun _ _ _ h => h) (Or.inl ⟨by rfl, ?_⟩) (by assumption) ?_
      rotate_left 1
      · intro w hSw; (try dsimp only at hSw); go_split_ands; (first | (go_simp; done) | (go_simp; with_reducible rfl))
      try simp only [Act.put, List.setIfInBounds_toArray, List.set_cons_zero, List.set_cons_succ]
      refine wpAnyX_take (i := 1) (v := ?_) rfl (by kernel_rfl) (by kernel_rfl) (by kernel_rfl) (by kernel_rfl) (fun _ _ _ h => h) (Or.inl ⟨by rfl, ?_⟩) (by assumption) ?_
      rotate_left 1
      · intro w hSw; (try dsimp only at hSw); go_split_ands; (first | (go_simp; done) | (go_simp; with_reducible rfl))
      try simp only [Act.put, List.setIfInBounds_toArray, List.set_cons_zero, List.set_cons_succ]
      refine wpAnyX_take (i := 2) (v := ?_) rfl (by kernel_rfl) (by kernel_rfl) (by kernel_rfl) (by kernel_rfl) (fun _ _ _ h => h) (Or.inl ⟨by rfl, ?_⟩) (by assumption) ?_
      rotate_left 1
      · intro w hSw; (try dsimp only at hSw); go_split_ands; (first | (go_simp; done) | (go_simp; with_reducible rfl))
      try simp only [Act.put, List.setIfInBounds_toArray, List.set_cons_zero, List.set_cons_succ]
      refine wpAnyX_take (i := 3) (v := ?_) rfl (by kernel_rfl) (by kernel_rfl) (by kernel_rfl) (by kernel_rfl) (fun _ _ _ h => h) (Or.inl ⟨by rfl, ?_⟩) (by assumption) ?_
      rotate_left 1
      · intro w hSw; (try dsimp only at hSw); go_split_ands; (first | (go_simp; done) | (go_simp; with_reducible rfl))
      try simp only [Act.put, List.setIfInBounds_toArray, List.set_cons_zero, List.set_cons_succ]
      refine wpAnyX_take (i := 4) (v := ?_) rfl (by kernel_rfl) (by kernel_rfl) (by kernel_rfl) (by kernel_rfl) (fun _ _ _ h => h) (Or.inl ⟨by rfl, ?_⟩) (by assumption) ?_
      rotate_left 1
      · intro w hSw; (try dsimp only at hSw); go_split_ands; (first | (go_simp; done) | (go_simp; with_reducible rfl))
      try simp only [Act.put, List.setIfInBounds_toArray, List.set_cons_zero, List.set_cons_succ]
      refine wpAnyX_take (i := 5) (v := ?_) rfl (by kernel_rfl) (by kernel_rfl) (by kernel_rfl) (by kernel_rfl) (fun _ _ _ h => h) (Or.inl ⟨by rfl, ?_⟩) (by assumption) ?_
      rotate_left 1
      · intro w hSw; (try dsimp only at hSw); go_split_ands; (first | (go_simp; done) | (go_simp; with_reducible rfl))
      try simp only [Act.put, List.setIfInBounds_toArray, List.set_cons_zero, List.set_cons_succ]
      refine wpAnyX_take (i := 6) (v := ?_) rfl (by kernel_rfl) (by kernel_rfl) (by kernel_rfl) (by kernel_rfl) (fun _ _ _ h => h) (Or.inl ⟨by rfl, ?_⟩) (by assumption) ?_
      rotate_left 1
      · intro w hSw; (try dsimp only at hSw); go_split_ands; (first | (go_simp; done) | (go_simp; with_reducible rfl))
      try simp only [Act.put, List.setIfInBounds_toArray, List.set_cons_zero, List.set_cons_succ]
      refine wpAnyX_take (i := 7) (v := ?_) rfl (by kernel_rfl) (by kernel_rfl) (by kernel_rfl) (by kernel_rfl) (fun _ _ _ h => h) (Or.inl ⟨by rfl, ?_⟩) (by assumption) ?_
      rotate_left 1
      · intro w hSw; (try dsimp only at hSw); go_split_ands; (first | (go_simp; done) | (go_simp; with_reducible rfl))
      try simp only [Act.put, List.setIfInBounds_toArray, List.set_cons_zero, List.set_cons_succ]
      refine wpAnyX_take (i := 8) (v := ?_) rfl (by kernel_rfl) (by kernel_rfl) (by kernel_rfl) (by kernel_rfl) (fun _ _ _ h => h) (Or.inl ⟨by rfl, ?_⟩) (by assumption) ?_
      rotate_left 1
      · intro w hSw; (try dsimp only at hSw); go_split_ands; (first | (go_simp; done) | (go_simp; with_reducible rfl))
      try simp only [Act.put, List.setIfInBounds_toArray, List.set_cons_zero, List.set_cons_succ]
      refine wpAnyX_take (i := 9) (v := ?_) rfl (by kernel_rfl) (by kernel_rfl) (by kernel_rfl) (by kernel_rfl) (fun _ _ _ h => h) (Or.inl ⟨by rfl, ?_⟩) (by assumption) ?_
      rotate_left 1
      · intro w hSw; (try dsimp only at hSw); go_split_ands; (first | (go_simp; done) | (go_simp; with_reducible rfl))
      try simp only [Act.put, List.setIfInBounds_toArray, List.set_cons_zero, List.set_cons_succ]
      refine wpAnyX_take (i := 10) (v := ?_) rfl (by kernel_rfl) (by kernel_rfl) (by kernel_rfl) (by kernel_rfl) (fun _ _ _ h => h) (Or.inl ⟨by rfl, ?_⟩) (by assumption) ?_
      rotate_left 1
      · intro w hSw; (try dsimp only at hSw); go_split_ands; (first | (go_simp; done) | (go_simp; with_reducible rfl))
      try simp only [Act.put, List.setIfInBounds_toArray, List.set_cons_zero, List.set_cons_succ]
      refine wpAnyX_take (i := 11) (v := ?_) rfl (by kernel_rfl) (by kernel_rfl) (by kernel_rfl) (by kernel_rfl) (fun _ _ _ h => h) (Or.inl ⟨by rfl, ?_⟩) (by assumption) ?_
      rotate_left 1
      · intro w hSw; (try dsimp only at hSw); go_split_ands; (first | (go_simp; done) | (go_simp; with_reducible rfl))
      try simp only [Act.put, List.setIfInBounds_toArray, List.set_cons_zero, List.set_cons_succ]
      refine wpAnyX_take (i := 12) (v := ?_) rfl (by kernel_rfl) (by kernel_rfl) (by kernel_rfl) (by kernel_rfl) (fun _ _ _ h => h) (Or.inl ⟨by rfl, ?_⟩) (by assumption) ?_
      rotate_left 1
      · intro w hSw; (try dsimp only at hSw); go_split_ands; (first | (go_simp; done) | (go_simp; with_reducible rfl))
      try simp only [Act.put, List.setIfInBounds_toArray, List.set_cons_zero, List.set_cons_succ]
      refine wpAnyX_take (i := 13) (v := ?_) rfl (by kernel_rfl) (by kernel_rfl) (by kernel_rfl) (by kernel_rfl) (fun _ _ _ h => h) (Or.inl ⟨by rfl, ?_⟩) (by assumption) ?_
      rotate_left 1
      · intro w hSw; (try dsimp only at hSw); go_split_ands; (first | (go_simp; done) | (go_simp; with_reducible rfl))
      try simp only [Act.put, List.setIfInBounds_toArray, List.set_cons_zero, List.set_cons_succ]
      clear hS0
      refine wpAnyX_one (i := 14) (by kernel_rfl) rfl (fun K hK => ?_)
      go_simp
      have DB := Veil.mk (And.intro (blk_setBlock (o := o1) DD.out.blk (DD.out.last.not_blk DD.out.blk).symm) (And.intro (blk_setBlock (o := o1) DD.out.ev (DD.out.last.not_blk DD.out.ev).symm) (And.intro (blk_setBlock (o := o1) DD.out.kv (DD.out.last.not_blk DD.out.kv).symm) (setBlock_get (w := w4.drew) DD.out.last.lt o1))))
      have HS5 := Veil.mk (begin_S DB.out.1 DB.out.2.1 DB.out.2.2.1)
      refine hK.out _ _ (fun _ => HS5.out) ?_
      clear hK K
      refine wpAnyX_one (i := 15) (by kernel_rfl) rfl (fun K hK => ?_)
      go_simp
      refine hK.out _ _ (fun _ => HS5.out) ?_
      clear hK K
      have hst1 := HS1.out (setBlock w4.drew ml o1) (.pointer (some ⟨w1.heap.size, 0, none⟩)) DB.out.2.2.2
      obtain ⟨o2, hrun2, hmap2⟩ := hst1
      have D6 := Veil.mk (BeginAt.set2 DD.out HB.out.maps o1 o2 hmap2)
      have HS6 := Veil.mk (begin_S D6.out.blk D6.out.ev D6.out.kv)
      clear hrun1 hmap2
      refine wpAnyX_one (i := 16) (by kernel_rfl) rfl (fun K hK => ?_)
      go_simp
      refine hK.out _ _ (fun _ => HS6.out) ?_
      clear hK K hrun2
      have HU6 := Veil.mk (upd_setBlock (upd_setBlock ((Upd.refl (fun k => k = bb ∨ k = ml ∨ k = mc) w4).drew) (b := ml) (fun _ => .inr (.inl rfl)) o1) (b := ml) (fun _ => .inr (.inl rfl)) o2)
      generalize setBlock (setBlock w4.drew ml o1) ml o2 = w6 at *
      have hrl := run_entry (z := .int .i64 0) keyed_key Try.underlying121 (by intro u; go_simp) (keyOf_key HE.out.w1 HE.out.w2) D6.out.count
      obtain ⟨v2, st2, o3, hrun3, hst3⟩ := hrl
      have HS3 := Veil.mk hst3
      clear hst3 DB HS5
      refine wpAnyX_one (i := 17) (by kernel_rfl) rfl (fun K hK => ?_)
      go_simp
      have DB := Veil.mk (And.intro (blk_setBlock (o := o3) D6.out.blk (D6.out.count.not_blk D6.out.blk).symm) (And.intro (blk_setBlock (o := o3) D6.out.ev (D6.out.count.not_blk D6.out.ev).symm) (And.intro (blk_setBlock (o := o3) D6.out.kv (D6.out.count.not_blk D6.out.kv).symm) (setBlock_get (w := w6) D6.out.count.lt o3))))
      have HS7 := Veil.mk (begin_S DB.out.1 DB.out.2.1 DB.out.2.2.1)
      refine hK.out _ _ (fun _ => HS7.out) ?_
      clear hK K
      refine wpAnyX_one (i := 18) (by kernel_rfl) rfl (fun K hK => ?_)
      go_simp
      refine hK.out _ _ (fun _ => HS7.out) ?_
      clear hK K
      have hst3 := HS3.out (setBlock w6 mc o3) (.int .i64 e.f3) DB.out.2.2.2
      obtain ⟨o4, hrun4, hmap4⟩ := hst3
      have D8 := Veil.mk (BeginAt.set3 D6.out HB.out.maps o3 o4 hmap4)
      have HS8 := Veil.mk (begin_S D8.out.blk D8.out.ev D8.out.kv)
      have HU8 := Veil.mk (upd_setBlock (upd_setBlock (HU4.out.trans HU6.out) (b := mc) (fun _ => .inr (.inr rfl)) o3) (b := mc) (fun _ => .inr (.inr rfl)) o4)
      clear hrun3 hmap4
      refine wpAnyX_one (i := 19) (by kernel_rfl) rfl (fun K hK => ?_)
      go_simp
      refine hK.out _ _ (fun _ => HS8.out) ?_
      clear hK K hrun4
      generalize setBlock (setBlock w6 mc o3) mc o4 = w8 at *
      refine wpAnyX_done (by kernel_rfl) ?_ _
      go_wp2
      go_ret
      have hyes : beginOk ts e = true := by unfold beginOk; rw [hOp.out, HN.out, e3]; rfl
      refine ⟨by rw [hyes]; rfl, ?_, fun _ => ⟨bs ++ [w1.heap.size], _, .slice A1 (bs.length + 1) c1, begin_close (tb := w1.heap.size) (i := i) (e := e) HB.out HBs.out ((Upd.ofBelow HW2.out _).trans BC.out.2.2.2.2.2.2) ?_ ?_ HW2.out.size HU8.out D8.out.blk D8.out.last ?_⟩⟩
      · exact ((((Upd.ofBelow HW2.out _).trans BC.out.2.2.2.2.2.2).trans' HU8.out (S'' := fun k => base ≤ k) (fun k _ hk => by obtain ⟨inner, ho⟩ := Kd.R_own HB.out.row; exact own_base ho k hk) (fun k _ hk => by
          rcases hk with rfl | rfl | rfl
          · exact HB.out.low
          · exact HB.out.lowl
          · exact HB.out.lowc))).below HBs.out (fun k hk => by omega)
      · have := HR3.out
        rw [show (bs ++ [w1.heap.size]).length = bs.length + 1 from by simp] at this
        exact this
      · exact BC.out.2.2.2.1
      · have := D8.out.count
        rw [beq_iff_eq.1 e3] at this
        rw [HN.out]
        exact this
    · have e3 : (e.f3 == (n : Int) + 1) = false := beq_eq_false_iff_ne.2 hat
      clear hat
      go_enter Try.func90, Try.ntmps90
      go_wp2_with fail
      go_quiet (first | (go_at_call 91; exact Calls.quiet_of_same (HQ.out _)))
      go_wp2
      go_ret
      have hno : beginOk ts e = false := by unfold beginOk; rw [hOp.out, HN.out, e3]; rfl
      exact ⟨by rw [hno]; rfl, ((HW.out.mono HBs.out).drewN _), fun h => absurd h (by rw [hno]; decide)⟩
end Go.Proofs.Ytjmnbbflahacoaa.Hist
