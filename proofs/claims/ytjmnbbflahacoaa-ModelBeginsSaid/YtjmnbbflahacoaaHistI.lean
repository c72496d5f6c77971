/- hist, ninth part: a trace is read. No condition. -/
import Derived.Test.YtjmnbbflahacoaaHistH
namespace Go.Proofs.Ytjmnbbflahacoaa.Hist
open Go.RowKit Go.ChangeMaps Go.Maps Go.Proofs.Ytjmnbbflahacoaa.Mem Go.Proofs.Ytjmnbbflahacoaa.PHistTells Go.Proofs.YtjmnbbflahacoaaW.PrintWords
set_option linter.unusedVariables false
set_option linter.unusedSimpArgs false

/-- A trace from the place i on, a book's tries ts being there: none: it isn't right. -/
def readFrom (ts : List Tr) (i : Nat) : List Ev → Option (List Tr)
  | [] => some ts
  | e :: l => (stepM ts i e).bind fun ts' => readFrom ts' (i + 1) l
/-- A trace's tries. -/
def readM (l : List Ev) : Option (List Tr) := readFrom [] 0 l

theorem turnTr_acc {t t' : Tr} {i : Int} {e : Ev} (h : turnTr t i e = some t') : t'.f8.length ≤ t.f8.length + 1 := by
  unfold turnTr at h
  split at h
  · injection h with h; subst h; simp [withAcc]
  split at h
  · injection h with h; subst h; simp [withAcc]
  split at h
  · injection h with h; subst h; simp
  split at h
  · injection h with h; subst h; simp
  · cases h
theorem stepM_bounds {ts ts' : List Tr} {i : Int} {e : Ev} {n : Nat} (h : stepM ts i e = some ts') (hl : ts.length ≤ n) (ha : ∀ t ∈ ts, t.f8.length ≤ n) : ts'.length ≤ n + 1 ∧ ∀ t ∈ ts', t.f8.length ≤ n + 1 := by
  unfold stepM at h
  split at h
  · split at h
    · cases h
    · injection h with h
      subst h
      refine ⟨by simp; omega, fun t ht => ?_⟩
      rw [List.mem_append, List.mem_singleton] at ht
      rcases ht with ht | rfl
      · have := ha t ht; omega
      · simp [newTr]
  split at h
  · split at h
    · cases h
    · injection h with h
      subst h
      exact ⟨by omega, fun t ht => by have := ha t ht; omega⟩
  split at h
  · rename_i k hk
    split at h
    · rename_i t ht
      split at h
      · rw [Option.map_eq_some_iff] at h
        obtain ⟨t', h1, h2⟩ := h
        subst h2
        refine ⟨by simp; omega, fun u hu => ?_⟩
        rcases List.mem_or_eq_of_mem_set hu with hu | rfl
        · have := ha u hu; omega
        · have := turnTr_acc h1
          have := ha t (List.mem_of_getElem? ht)
          omega
      · cases h
    · cases h
  · cases h

theorem book_new (w : World) : BookAt (((w.alloc (.map #[] 0)).alloc (.map #[] 0)).alloc (.cells #[.slice none 0 0, .map (some w.heap.size), .map (some (w.heap.size + 1))] 124)) w.heap.size (w.heap.size + 1 + 1) [] (fun _ => .slice none 0 0) [] (.slice none 0 0) w.heap.size (w.heap.size + 1) := by
  have h1 : (w.alloc (.map #[] 0)).heap.size = w.heap.size + 1 := by simp
  have h2 : ((w.alloc (.map #[] 0)).alloc (.map #[] 0)).heap.size = w.heap.size + 1 + 1 := by simp
  have m1 := ((MapAt.made Try.prog 3 w).same (w' := (w.alloc (.map #[] 0)).alloc (.map #[] 0)) (Below.heap_alloc _ _ _ (by simp)))
  have m2 := MapAt.made Try.prog 173 (w.alloc (.map #[] 0))
  rw [h1] at m2
  refine ⟨?_, by omega, Kd.R_nil _ _ _ _ _, rfl, fun k b t h => by simp at h, by simp, fun b _ h => by simp at h, ?_, ?_, Nat.le_refl _, by omega, by omega⟩
  · have := Blk.new ((w.alloc (.map #[] 0)).alloc (.map #[] 0)) #[.slice none 0 0, .map (some w.heap.size), .map (some (w.heap.size + 1))] 124
    rw [h2] at this
    exact this
  · refine (m1.same (Below.heap_alloc _ _ _ (by simp; omega))).ext (fun x => ?_)
    unfold lastM
    cases key1 x <;> rfl
  · refine (m2.same (Below.heap_alloc _ _ _ (by simp))).ext (fun x => ?_)
    unfold countM
    cases key2 x <;> rfl

/-- What read leaves. -/
def ReadPost (w : World) (l : List Ev) (ed : Ending) (w' : World) : Prop :=
  Below w.heap.size w w' ∧ match readM l with
    | none => ed = .returned (.tuple #[.pointer none, .bool false])
    | some ts => ed = .returned (.tuple #[.pointer (some ⟨w.heap.size + 1 + 1, 0, none⟩), .bool true]) ∧ ∃ bs ro rv, BookAt w' w.heap.size (w.heap.size + 1 + 1) bs ro ts rv w.heap.size (w.heap.size + 1)

theorem eventPost_no {w w' : World} {base bb : Nat} {ts : List Tr} {ml mc : Nat} {i : Int} {e : Ev} {ed : Ending} (h : EventPost w base bb ts ml mc i e ed w') (hs : stepM ts i e = none) : ed = .returned (.bool false) ∧ Below base w w' := by
  obtain ⟨h1, h2, _⟩ := h
  rw [hs] at h1
  exact ⟨h1, h2⟩
theorem eventPost_yes {w w' : World} {base bb : Nat} {ts ts' : List Tr} {ml mc : Nat} {i : Int} {e : Ev} {ed : Ending} (h : EventPost w base bb ts ml mc i e ed w') (hs : stepM ts i e = some ts') : ed = .returned (.bool true) ∧ Below base w w' ∧ ∃ bs' ro' rv', BookAt w' base bb bs' ro' ts' rv' ml mc := by
  obtain ⟨h1, h2, h3⟩ := h
  rw [hs] at h1
  exact ⟨h1, h2, h3 _ hs⟩

set_option maxHeartbeats 1600000 in
set_option maxRecDepth 100000 in
theorem read_any (w : World) (A : Option Addr) (c : Nat) (l : List Ev) (hC : kEv.C w A l.length l) (hl : l.length ≤ 1000000000) (hok : ∀ e ∈ l, EvOk e) :
    Calls Try.prog 50 #[.slice A l.length c] w (ReadPost w l) := by
  have HC := Veil.mk hC
  have HL := Veil.mk hl
  have HO := Veil.mk hok
  have HN := Veil.mk (book_new w)
  have hb0 : Below w.heap.size w (((w.alloc (.map #[] 0)).alloc (.map #[] 0)).alloc (.cells #[.slice none 0 0, .map (some w.heap.size), .map (some (w.heap.size + 1))] 124)) :=
    (((Below.refl _ _).alloc (Nat.le_refl _) _).alloc (by simp) _).alloc (by simp; omega) _
  have HW0 := Veil.mk hb0
  clear hC hl hok hb0
  have hmm := @run_makeMap Try.prog
  go_enter Try.func50, Try.ntmps50
  go_wp2
  clear hmm
  go_loopw [5, 6, 13] (fun v5 v6 v13 wr => ∃ (k : Nat) (ts : List Tr) (bs : List Nat) (ro : Nat → Value) (rv : Value), k ≤ l.length ∧ v13 = .int .i64 k ∧ Veil (readM l = readFrom ts k (l.drop k)) ∧ Veil (BookAt wr w.heap.size (w.heap.size + 1 + 1) bs ro ts rv w.heap.size (w.heap.size + 1)) ∧ Veil (Below w.heap.size w wr) ∧ Veil (ts.length ≤ k ∧ ∀ t ∈ ts, t.f8.length ≤ k)) (fun _ _ v13 _ => l.length - (intOf v13).toNat)
  case atStart => exact ⟨0, [], [], _, _, Nat.zero_le _, rfl, ⟨rfl⟩, HN, HW0, ⟨Nat.le_refl _, by simp⟩⟩
  case round =>
    obtain ⟨k, ts, bs, ro, rv, hk, rfl, HR, HB, HW, HT⟩ := hrel
    have hm := HL.out
    by_cases hlt : k < l.length
    · have hC' := Kd.C_below HC.out HW.out
      obtain ⟨ad, rfl, h0, h1, h2, h3, h4, h5, h6⟩ := at_T31 hC' (k : Int) (by omega) (by omega)
      simp only [Int.toNat_natCast] at h0 h1 h2 h3 h4 h5 h6
      have hlti : decide ((k : Int) < (l.length : Int)) = true := decide_eq_true (by omega)
      have hx : rd_T31 l (k : Int) = l[k] := by unfold rd_T31; simp [List.getD, hlt]
      obtain ⟨x, hxx⟩ : ∃ x, rd_T31 l (k : Int) = x := ⟨_, rfl⟩
      rw [hxx] at h0 h1 h2 h3 h4 h5 h6
      have HX : Veil (l.drop k = x :: l.drop (k + 1)) := ⟨by rw [List.drop_eq_getElem_cons hlt, ← hx, hxx]⟩
      have HM : Veil (x ∈ l) := ⟨by rw [← hxx, hx]; exact List.getElem_mem _⟩
      clear hxx hx
      have hb1 : ts.length ≤ 1000000000 := by have := HT.out.1; omega
      have hb2 : ∀ t ∈ ts, t.f8.length ≤ 1000000000 := fun t ht => by have := HT.out.2 t ht; omega
      have HB1 := Veil.mk (And.intro hb1 hb2)
      clear hb1 hb2
      cases hs : stepM ts k x with
      | none =>
        have HS := Veil.mk hs
        clear hs
        go_wp2_with (first | (go_at_call 74; go_must (refine (event_any _ w.heap.size (w.heap.size + 1 + 1) bs ro ts rv w.heap.size (w.heap.size + 1) k x (HB.out.below ((Below.refl _ _).alloc (Nat.le_refl _) _)) HB1.out.1 HB1.out.2 (Nat.le_trans HW.out.size (by simp)) (HO.out x HM.out)).mono ?_; intro ed w2 hp; obtain ⟨rfl, hbw⟩ := eventPost_no hp HS.out; have HBW := Veil.mk hbw; clear hp hbw)))
        go_ret2
        have hno : readM l = none := by rw [HR.out, HX.out]; unfold readFrom; rw [HS.out]; rfl
        exact ⟨(HW.out.alloc HW.out.size _).trans HBW.out, by rw [hno]; rfl⟩
      | some ts' =>
        have HS := Veil.mk hs
        clear hs
        go_wp2_with (first | (go_at_call 74; go_must (refine (event_any _ w.heap.size (w.heap.size + 1 + 1) bs ro ts rv w.heap.size (w.heap.size + 1) k x (HB.out.below ((Below.refl _ _).alloc (Nat.le_refl _) _)) HB1.out.1 HB1.out.2 (Nat.le_trans HW.out.size (by simp)) (HO.out x HM.out)).mono ?_; intro ed w2 hp; obtain ⟨rfl, hbw, hbk⟩ := eventPost_yes hp HS.out; have HBW := Veil.mk hbw; have HBK := Veil.mk hbk; clear hp hbw hbk)))
        go_roundw
        case rel =>
          obtain ⟨bs', ro', rv', hb'⟩ := HBK.out
          exact ⟨k + 1, ts', bs', ro', rv', by omega, by go_num, ⟨by rw [HR.out, HX.out]; show (stepM ts k x).bind _ = _; rw [HS.out]; rfl⟩, ⟨hb'⟩, ⟨(HW.out.alloc HW.out.size _).trans HBW.out⟩, ⟨stepM_bounds HS.out HT.out.1 HT.out.2⟩⟩
        case measure => simp [intOf]; omega
    · have hkl : k = l.length := by omega
      have hlti : decide ((k : Int) < (l.length : Int)) = false := decide_eq_false (by omega)
      have HF : Veil (readM l = some ts) := ⟨by rw [HR.out, hkl, List.drop_length]; rfl⟩
      clear hkl
      go_wp2
      go_ret2
      exact ⟨HW.out, by rw [HF.out]; exact ⟨rfl, _, _, _, HB.out⟩⟩
end Go.Proofs.Ytjmnbbflahacoaa.Hist
