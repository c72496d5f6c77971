/- hist, plain: what holds of a right trace's tries: places, ends, accesses. No condition. -/
import Derived.Test.YtjmnbbflahacoaaHistY
namespace Go.Proofs.Ytjmnbbflahacoaa.Hist
open Go.RowKit Go.Proofs.Ytjmnbbflahacoaa.Mem Go.Proofs.Ytjmnbbflahacoaa.PHistTells
set_option linter.unusedVariables false
set_option linter.unusedSimpArgs false

/-- An access is what stands at its place. -/
structure AccGood (l : List Ev) (n : Nat) (t : Tr) (a : Acc) : Prop where
  after : t.f4 < a.f0
  lt : a.f0 < n
  ahead : 0 ≤ t.f5 → a.f0 < t.f5
  ev : ∃ x, l[a.f0.toNat]? = some x ∧ x.f0 = a.f1 ∧ x.f4 = a.f2 ∧ x.f5 = a.f3 ∧ x.f1 = t.f0
  kind : a.f1 = 2 ∨ a.f1 = 3
/-- A try of a trace's first n events. -/
structure TryGood (l : List Ev) (n : Nat) (t : Tr) : Prop where
  b0 : 0 ≤ t.f4
  b1 : t.f4 < n
  bk : ∃ x, l[t.f4.toNat]? = some x ∧ x.f0 = 1
  e1 : t.f5 < n
  ek : 0 ≤ t.f5 → ∃ x, l[t.f5.toNat]? = some x ∧ t.f7 = (x.f0 == 5)
  acc : ∀ a ∈ t.f8, AccGood l n t a
  rise : t.f8.Pairwise (fun a b => a.f0 < b.f0)
  op : t.f5 < 0 → t.f5 = -1 ∧ t.f7 = false ∧ t.f6 = 0

theorem TryGood.next {l : List Ev} {n : Nat} {t : Tr} (h : TryGood l n t) : TryGood l (n + 1) t :=
  ⟨h.b0, by have := h.b1; omega, h.bk, by have := h.e1; omega, h.ek, fun a ha => by have := h.acc a ha; exact ⟨this.after, by have := this.lt; omega, this.ahead, this.ev, this.kind⟩, h.rise, h.op⟩

end Go.Proofs.Ytjmnbbflahacoaa.Hist
/- hist, plain: a right trace's tries, transaction by transaction. No condition. -/
namespace Go.Proofs.Ytjmnbbflahacoaa.Hist
open Go.RowKit Go.Proofs.Ytjmnbbflahacoaa.Mem Go.Proofs.Ytjmnbbflahacoaa.PHistTells
set_option linter.unusedVariables false
set_option linter.unusedSimpArgs false

/-- What an event of a try leaves of it. -/
theorem turnTr_keeps {t t' : Tr} {i : Int} {e : Ev} (h : turnTr t i e = some t') : t'.f0 = t.f0 ∧ t'.f1 = t.f1 ∧ t'.f2 = t.f2 ∧ t'.f3 = t.f3 ∧ t'.f4 = t.f4 := by
  unfold turnTr at h
  split at h
  · injection h with h; subst h; exact ⟨rfl, rfl, rfl, rfl, rfl⟩
  split at h
  · injection h with h; subst h; exact ⟨rfl, rfl, rfl, rfl, rfl⟩
  split at h
  · injection h with h; subst h; exact ⟨rfl, rfl, rfl, rfl, rfl⟩
  split at h
  · injection h with h; subst h; exact ⟨rfl, rfl, rfl, rfl, rfl⟩
  · cases h

end Go.Proofs.Ytjmnbbflahacoaa.Hist
/- hist, plain: a beginning of a right trace; how many committed. No condition. -/
namespace Go.Proofs.Ytjmnbbflahacoaa.Hist
open Go.RowKit Go.Proofs.Ytjmnbbflahacoaa.Mem Go.Proofs.Ytjmnbbflahacoaa.PHistTells
set_option linter.unusedVariables false
set_option linter.unusedSimpArgs false

/-- Tries, later. -/
structure TryLater (t t' : Tr) : Prop where
  begins : t'.f4 = t.f4
  ends : 0 ≤ t.f5 → t'.f5 = t.f5
  accs : t.f8.length ≤ t'.f8.length
theorem TryLater.trans {a b c : Tr} (h : TryLater a b) (k : TryLater b c) : TryLater a c :=
  ⟨k.begins.trans h.begins, fun h0 => (k.ends (by rw [h.ends h0]; exact h0)).trans (h.ends h0), Nat.le_trans h.accs k.accs⟩
structure Later (ts ts' : List Tr) : Prop where
  len : ts.length ≤ ts'.length
  each : ∀ (i : Nat) (t : Tr), ts[i]? = some t → ∃ t', ts'[i]? = some t' ∧ TryLater t t'
theorem Later.trans {a b c : List Tr} (h : Later a b) (k : Later b c) : Later a c :=
  ⟨Nat.le_trans h.len k.len, fun i t ht => by
    obtain ⟨t1, h1, l1⟩ := h.each i t ht
    obtain ⟨t2, h2, l2⟩ := k.each i t1 h1
    exact ⟨t2, h2, l1.trans l2⟩⟩
end Go.Proofs.Ytjmnbbflahacoaa.Hist
