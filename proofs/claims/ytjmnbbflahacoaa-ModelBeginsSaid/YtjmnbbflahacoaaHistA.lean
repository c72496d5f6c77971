/- hist, first part: Try.open, and what asks a try's accesses. No condition. -/
import Derived.Test.YtjmnbbflahacoaaProg
import Derived.Test.YtjmnbbflahacoaaMem
namespace Go.Proofs.Ytjmnbbflahacoaa.Hist
open Go.RowKit Go.Proofs.Ytjmnbbflahacoaa.Mem
set_option linter.unusedVariables false

theorem open_nil (w : World) : Calls Try.prog 91 #[.pointer none] w fun e w' => e = .returned (.bool false) ∧ w = w' := by
  go_enter Try.func91, Try.ntmps91
  go_wp2
  go_ret
  exact ⟨rfl, rfl⟩

theorem open_at (w : World) (b : Nat) (n : Int) (hc : w.cell? ⟨b, 5, none⟩ = some (.int .i64 n)) :
    Calls Try.prog 91 #[.pointer (some ⟨b, 0, none⟩)] w fun e w' => e = .returned (.bool (decide (n < 0))) ∧ w = w' := by
  go_enter Try.func91, Try.ntmps91
  go_wp2
  go_ret
  exact ⟨rfl, rfl⟩
end Go.Proofs.Ytjmnbbflahacoaa.Hist
