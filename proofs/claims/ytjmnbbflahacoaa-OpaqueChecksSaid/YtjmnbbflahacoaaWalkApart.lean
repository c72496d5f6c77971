/- ModelApart's walk: true for all values and any two tries. No condition. -/
import Derived.Test.YtjmnbbflahacoaaModA
import Derived.Test.YtjmnbbflahacoaaModF
import Derived.Test.YtjmnbbflahacoaaBase
import Derived.Deep.DeepCutAuto
namespace Go.Proofs.Ytjmnbbflahacoaa.Model
open Go.RowKit Go.Proofs.Ytjmnbbflahacoaa.Mem Go.Proofs.Ytjmnbbflahacoaa.Hist Go.Proofs.Ytjmnbbflahacoaa.PHistTells Go.Proofs.YtjmnbbflahacoaaW.PrintWords
set_option linter.unusedVariables false
set_option linter.unusedSimpArgs false

/-- Two tries, boxed. -/
structure TwoAt (w : World) (b1 b2 : Nat) (s t : Tr) (r1 r2 : Value) : Prop where
  x : Blk w b1 29 (trC s r1)
  y : Blk w b2 29 (trC t r2)
theorem TwoAt.below {w w' : World} {b1 b2 : Nat} {s t : Tr} {r1 r2 : Value} (h : TwoAt w b1 b2 s t r1 r2) (hb : Below w.heap.size w w') : TwoAt w' b1 b2 s t r1 r2 := ⟨h.x.below hb h.x.lt, h.y.below hb h.y.lt⟩
def trP (w : World) (b : Nat) (t : Tr) (row : Value) : Prop := w.cell? ⟨b, 0, none⟩ = some (.int .i64 t.f0) ∧ w.cell? ⟨b, 1, none⟩ = some (.int .i64 t.f1) ∧ w.cell? ⟨b, 2, none⟩ = some (.int .i64 t.f2) ∧ w.cell? ⟨b, 3, none⟩ = some (.int .i64 t.f3) ∧
    w.cell? ⟨b, 4, none⟩ = some (.int .i64 t.f4) ∧ w.cell? ⟨b, 5, none⟩ = some (.int .i64 t.f5) ∧ w.cell? ⟨b, 6, none⟩ = some (.int .i64 t.f6) ∧ w.cell? ⟨b, 7, none⟩ = some (.bool t.f7) ∧ w.cell? ⟨b, 8, none⟩ = some row
theorem TwoAt.cells {w : World} {b1 b2 : Nat} {s t : Tr} {r1 r2 : Value} (h : TwoAt w b1 b2 s t r1 r2) : trP w b1 s r1 ∧ trP w b2 t r2 := ⟨tr_cells h.x, tr_cells h.y⟩

end Go.Proofs.Ytjmnbbflahacoaa.Model
