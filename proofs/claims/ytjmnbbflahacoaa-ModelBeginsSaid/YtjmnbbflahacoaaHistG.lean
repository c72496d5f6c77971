/- hist, seventh part: an event. No condition. -/
import Derived.Test.YtjmnbbflahacoaaHistF
namespace Go.Proofs.Ytjmnbbflahacoaa.Hist
open Go.RowKit Go.ChangeMaps Go.Maps Go.Proofs.Ytjmnbbflahacoaa.Mem Go.Proofs.Ytjmnbbflahacoaa.PHistTells Go.Proofs.YtjmnbbflahacoaaW.PrintWords
set_option linter.unusedVariables false
set_option linter.unusedSimpArgs false

theorem map_set_same {α β : Type} (f : α → β) (l : List α) (k : Nat) (x y : α) (hk : l[k]? = some x) (h : f y = f x) : (l.set k y).map f = l.map f := by
  rw [List.map_set, h]
  apply List.ext_getElem?
  intro j
  rw [List.getElem?_set]
  split
  · rename_i e
    subst e
    have := (List.getElem?_eq_some_iff.1 hk).1
    rw [if_pos (by simpa using this), List.getElem?_map, hk]
    rfl
  · rfl
theorem lastOf_set (th : Int) (ts : List Tr) (k : Nat) (t t' : Tr) (hk : ts[k]? = some t) (h : t'.f0 = t.f0) : lastOf th (ts.set k t') = lastOf th ts := by
  unfold lastOf
  rw [map_set_same _ ts k t t' hk h]
theorem countOf_set (th tx : Int) (ts : List Tr) (k : Nat) (t t' : Tr) (hk : ts[k]? = some t) (h0 : t'.f0 = t.f0) (h1 : t'.f1 = t.f1) : countOf th tx (ts.set k t') = countOf th tx ts := by
  unfold countOf
  have key : ∀ l : List Tr, l.countP (fun t => t.f0 == th && t.f1 == tx) = (l.map (fun t => t.f0 == th && t.f1 == tx)).countP id := fun l => by rw [List.countP_map]; rfl
  rw [key, key, map_set_same _ ts k t t' hk (by rw [h0, h1])]

/-- One of the book's tries has turned. -/
theorem BookAt.turn {w w' : World} {base bb : Nat} {bs : List Nat} {ro : Nat → Value} {ts : List Tr} {rv : Value} {ml mc : Nat} (h : BookAt w base bb bs ro ts rv ml mc) {k b : Nat} {t t' : Tr} {row' : Value} (hkb : bs[k]? = some b) (hkt : ts[k]? = some t)
    (hT : TryAt w' base b t' row') (hu : Upd (fun j => j = b ∨ (ro b).ownBlock = some j) w w') (hr : row'.ownBlock = (ro b).ownBlock ∨ ∃ j, row'.ownBlock = some j ∧ w.heap.size ≤ j) (h0 : t'.f0 = t.f0) (h1 : t'.f1 = t.f1) :
    BookAt w' base bb bs (fun x => if x = b then row' else ro x) (ts.set k t') rv ml mc := by
  have hTb := h.tries k b t hkb hkt
  have hST : ∀ j T, (j = b ∨ (ro b).ownBlock = some j) → Typed w j T → T = 29 ∨ T = 33 := by
    rintro j T (rfl | hj) hty
    · exact .inl (hty.ne (blk_typed hTb.blk))
    · exact .inr (hty.ne (row_typed hTb.acc hj))
  have hSM : ∀ j (K : TypeId) (m : Value → Option Value), (j = b ∨ (ro b).ownBlock = some j) → ¬ MapAt Try.prog K w j m := by
    rintro j K m (rfl | hj) hm
    · exact (blk_typed hTb.blk).not_map hm
    · exact (row_typed hTb.acc hj).not_map hm
  have hbl : ∀ b', b' ∈ bs → b' < w.heap.size ∧ (∀ j, (ro b').ownBlock = some j → j < w.heap.size) := fun b' hb => by
    obtain ⟨k', hk'⟩ := List.getElem?_of_mem hb
    have hlt : k' < ts.length := by rw [← h.len]; exact (List.getElem?_eq_some_iff.1 hk').1
    have := h.tries k' b' _ hk' (List.getElem?_eq_getElem hlt)
    exact ⟨this.blk.lt, fun j hj => row_lt this hj⟩
  have hmem : b ∈ bs := List.mem_of_getElem? hkb
  refine ⟨h.blk.upd hu (fun hs => by rcases hST _ _ hs (blk_typed h.blk) with e | e <;> exact absurd e (by decide)), h.low, ?_, by rw [List.length_set]; exact h.len, ?_, h.nodup, ?_, ?_, ?_, h.lowl, h.lowc, h.maps⟩
  · refine Kd.R_mono (Kd.R_step (Kd.R_tight (by rfl) h.row) (fun j hj hlt => hu.block j hlt (fun hs => ?_))) (fun _ _ => trivial)
    rcases hST _ _ hs (row_typed h.row hj.symm) with e | e <;> exact absurd e (by decide)
  · intro k' b' u hb' hu'
    by_cases e : k' = k
    · subst e
      have hlt := (List.getElem?_eq_some_iff.1 hkt).1
      rw [hkb] at hb'
      rw [List.getElem?_set_self hlt] at hu'
      injection hb' with hb'
      injection hu' with hu'
      subst hb' hu'
      rw [if_pos rfl]
      exact hT
    · rw [List.getElem?_set_ne (Ne.symm e)] at hu'
      have hne : b' ≠ b := by
        rintro rfl
        obtain ⟨p1, p2⟩ := List.getElem?_eq_some_iff.1 hb'
        obtain ⟨q1, q2⟩ := List.getElem?_eq_some_iff.1 hkb
        exact e ((List.getElem_inj h.nodup).1 (p2.trans q2.symm))
      rw [if_neg hne]
      have hT' := h.tries k' b' u hb' hu'
      refine hT'.upd hu ?_ ?_
      · rintro (hs | hs)
        · exact hne hs
        · exact absurd ((blk_typed hT'.blk).ne (row_typed hTb.acc hs)) (by decide)
      · intro j hj
        rintro (hs | hs)
        · subst hs
          exact absurd ((blk_typed hTb.blk).ne (row_typed hT'.acc hj)) (by decide)
        · exact h.apart b' b (List.mem_of_getElem? hb') hmem hne j hj hs
  · intro b1 b2 hb1 hb2 hne j hj
    by_cases e1 : b1 = b
    · subst e1
      rw [if_pos rfl] at hj
      have e2 : b2 ≠ b1 := Ne.symm hne
      rw [if_neg e2]
      rcases hr with hr | ⟨j', hr, hge⟩
      · rw [hr] at hj
        exact h.apart b1 b2 hb1 hb2 hne j hj
      · rw [hr] at hj
        injection hj with hj
        subst hj
        intro hj2
        have := (hbl b2 hb2).2 _ hj2
        omega
    · rw [if_neg e1] at hj
      by_cases e2 : b2 = b
      · subst e2
        rw [if_pos rfl]
        rcases hr with hr | ⟨j', hr, hge⟩
        · rw [hr]
          exact h.apart b1 b2 hb1 hb2 hne j hj
        · rw [hr]
          intro hj2
          injection hj2 with hj2
          have := (hbl b1 hb1).2 _ hj
          omega
      · rw [if_neg e2]
        exact h.apart b1 b2 hb1 hb2 hne j hj
  · refine (h.lastAt.upd hu (fun hs => hSM _ _ _ hs h.lastAt)).ext (fun x => ?_)
    unfold lastM
    cases key1 x with
    | none => rfl
    | some th =>
      simp only [Option.bind_some]
      rw [lastOf_set th ts k t t' hkt h0]
  · refine (h.countAt.upd hu (fun hs => hSM _ _ _ hs h.countAt)).ext (fun x => ?_)
    unfold countM
    cases key2 x with
    | none => rfl
    | some p =>
      simp only [Option.bind_some]
      rw [countOf_set _ _ ts k t t' hkt h0 h1]

theorem stepM_begin {ts : List Tr} {i : Int} {e : Ev} (h1 : (e.f0 == 1) = true) : stepM ts i e = if beginOk ts e then some (ts ++ [newTr i e]) else none := by
  unfold stepM beginOk
  rw [if_pos h1]
  cases (isOpen ts e.f1 || !(e.f3 == (countOf e.f1 e.f2 ts : Int) + 1)) <;> rfl
theorem stepM_refuse {ts : List Tr} {i : Int} {e : Ev} (h1 : (e.f0 == 1) = false) (h7 : (e.f0 == 7) = true) : stepM ts i e = if isOpen ts e.f1 then none else some ts := by
  unfold stepM
  rw [if_neg (by simp [h1]), if_pos h7]
theorem stepM_shut {ts : List Tr} {i : Int} {e : Ev} (h1 : (e.f0 == 1) = false) (h7 : (e.f0 == 7) = false) (ho : isOpen ts e.f1 = false) : stepM ts i e = none := by
  unfold stepM
  rw [if_neg (by simp [h1]), if_neg (by simp [h7])]
  unfold isOpen at ho
  cases hl : lastOf e.f1 ts with
  | none => rfl
  | some k =>
    rw [hl] at ho
    cases ht : ts[k]? with
    | none => simp [ht]
    | some t =>
      simp only [ht] at ho ⊢
      rw [ho]; rfl
theorem isOpen_of {ts : List Tr} {th : Int} (ho : isOpen ts th = true) : ∃ k t, lastOf th ts = some k ∧ ts[k]? = some t ∧ t.f5 < 0 ∧ t.f0 = th := by
  unfold isOpen at ho
  cases hl : lastOf th ts with
  | none => rw [hl] at ho; cases ho
  | some k =>
    rw [hl] at ho
    cases ht : ts[k]? with
    | none => simp [ht] at ho
    | some t =>
      simp only [ht, decide_eq_true_eq] at ho
      have := (lastIx_spec th _ k hl).1
      rw [List.getElem?_map, ht] at this
      simp at this
      exact ⟨k, t, rfl, ht, ho, this⟩
theorem stepM_open {ts : List Tr} {i : Int} {e : Ev} (h1 : (e.f0 == 1) = false) (h7 : (e.f0 == 7) = false) {k : Nat} {t : Tr} (hl : lastOf e.f1 ts = some k) (ht : ts[k]? = some t) (ho : t.f5 < 0) :
    stepM ts i e = if t.f1 == e.f2 && t.f2 == e.f3 then (turnTr t i e).map (ts.set k) else none := by
  unfold stepM
  rw [if_neg (by simp [h1]), if_neg (by simp [h7]), hl]
  simp only [ht, ho, decide_true, Bool.true_and]
end Go.Proofs.Ytjmnbbflahacoaa.Hist
