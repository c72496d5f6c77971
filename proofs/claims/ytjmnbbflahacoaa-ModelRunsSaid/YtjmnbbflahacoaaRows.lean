/-
  No cell of these rows narrows 'for every input' (looked for: loops, veiled, ifaces, maps, wideKeys, modest, calm, conditions, laid).
  DERIVED. THE GIVEN ROWS OF THIS SEAT. 16 by the template 'for every input the law returns true; each argument reads behind the call as it read before'; 0 by the template 'total and deterministic' (their statements: YtjmnbbflahacoaaTotals.lean).
  GIVEN WITH THE SEED: the statements are not yours to turn. If you find one false, say at which input.
  Laid BY PROGRAM, IN A SANDBOX (cutbox-rows.mjs): the forced cells as the released guide's own fill.sh prints them over the translation 7a469f544c6fc0f5… (all of the seat's roots in one cut). By AI agents, Wed Nov 11 2026. No macro, syntax, notation, axiom, sorry.
-/
import Derived.Test.YtjmnbbflahacoaaChecked
import GoSem.Claim
import GoSem.ClaimJoined
import GoSem.ClaimMapViews
import Derived.JoinedTies
import Derived.KernelRfl
namespace Go.Proofs.Ytjmnbbflahacoaa
/- THE CELL 'sum', in the pinned program and in every row, IS THE sha256 OF THE DUMP (.gsa) THAT YtjmnbbflahacoaaProg.lean LOADS. Nothing in Lean hashes anything: it is a label: what it is worth is what the hold of that sum in a sandbox is worth. -/
noncomputable def Try.pinned : Pinned := { name := "ytjmnbbflahacoaa", sum := "7a469f544c6fc0f59d71ba72560cf6e3548d2f4e674f521482e21be27ab886e7", checked := Try.checked }
namespace Rows
def none {H : Type} : Left H := { results := [], args := [] }

/-- 'quarrellaw17.HistPlaces': WHATEVER THE INPUT: true; the input reads as it did. -/
def histPlacesSpec : ChangeSpec := { name := "histPlaces", fn := fun _ => fun
  | [d] => { results := [.lit (.bool true)], args := [d] }
  | _ => none }
def histPlacesRow : OpenClaim := { program := "ytjmnbbflahacoaa", sum := "7a469f544c6fc0f59d71ba72560cf6e3548d2f4e674f521482e21be27ab886e7", func := "quarrel/quarrellaw17.HistPlaces", spec := "histPlaces", unfollowed := true, recurses := true, plainKeys := false, apart := false }
def HistPlacesSaid : Prop := histPlacesRow.holds Try.pinned (OpenSpec.ofChange histPlacesSpec)

/-- ITS FALSE NEIGHBOUR: 'it returns false'. Refute it at one input. -/
def histPlacesWrong : ChangeSpec := { name := "histPlaces", fn := fun _ => fun
  | [d] => { results := [.lit (.bool false)], args := [d] }
  | _ => none }
def HistPlacesWrongFalsely : Prop := histPlacesRow.holds Try.pinned (OpenSpec.ofChange histPlacesWrong)

/-- 'quarrellaw17.HistParts': WHATEVER THE INPUT: true; the input reads as it did. -/
def histPartsSpec : ChangeSpec := { name := "histParts", fn := fun _ => fun
  | [d] => { results := [.lit (.bool true)], args := [d] }
  | _ => none }
def histPartsRow : OpenClaim := { program := "ytjmnbbflahacoaa", sum := "7a469f544c6fc0f59d71ba72560cf6e3548d2f4e674f521482e21be27ab886e7", func := "quarrel/quarrellaw17.HistParts", spec := "histParts", unfollowed := true, recurses := true, plainKeys := false, apart := false }
def HistPartsSaid : Prop := histPartsRow.holds Try.pinned (OpenSpec.ofChange histPartsSpec)

/-- ITS FALSE NEIGHBOUR: 'it returns false'. Refute it at one input. -/
def histPartsWrong : ChangeSpec := { name := "histParts", fn := fun _ => fun
  | [d] => { results := [.lit (.bool false)], args := [d] }
  | _ => none }
def HistPartsWrongFalsely : Prop := histPartsRow.holds Try.pinned (OpenSpec.ofChange histPartsWrong)

/-- 'quarrellaw17.HistBefore': WHATEVER THE INPUT: true; the input reads as it did. -/
def histBeforeSpec : ChangeSpec := { name := "histBefore", fn := fun _ => fun
  | [d1, d2] => { results := [.lit (.bool true)], args := [d1, d2] }
  | _ => none }
def histBeforeRow : OpenClaim := { program := "ytjmnbbflahacoaa", sum := "7a469f544c6fc0f59d71ba72560cf6e3548d2f4e674f521482e21be27ab886e7", func := "quarrel/quarrellaw17.HistBefore", spec := "histBefore", unfollowed := true, recurses := true, plainKeys := false, apart := false }
def HistBeforeSaid : Prop := histBeforeRow.holds Try.pinned (OpenSpec.ofChange histBeforeSpec)

/-- ITS FALSE NEIGHBOUR: 'it returns false'. Refute it at one input. -/
def histBeforeWrong : ChangeSpec := { name := "histBefore", fn := fun _ => fun
  | [d1, d2] => { results := [.lit (.bool false)], args := [d1, d2] }
  | _ => none }
def HistBeforeWrongFalsely : Prop := histBeforeRow.holds Try.pinned (OpenSpec.ofChange histBeforeWrong)

/-- 'quarrellaw17.HistTells': WHATEVER THE INPUT: true; the input reads as it did. -/
def histTellsSpec : ChangeSpec := { name := "histTells", fn := fun _ => fun
  | [d1, d2, d3] => { results := [.lit (.bool true)], args := [d1, d2, d3] }
  | _ => none }
def histTellsRow : OpenClaim := { program := "ytjmnbbflahacoaa", sum := "7a469f544c6fc0f59d71ba72560cf6e3548d2f4e674f521482e21be27ab886e7", func := "quarrel/quarrellaw17.HistTells", spec := "histTells", unfollowed := true, recurses := true, plainKeys := false, apart := false }
def HistTellsSaid : Prop := histTellsRow.holds Try.pinned (OpenSpec.ofChange histTellsSpec)

/-- ITS FALSE NEIGHBOUR: 'it returns false'. Refute it at one input. -/
def histTellsWrong : ChangeSpec := { name := "histTells", fn := fun _ => fun
  | [d1, d2, d3] => { results := [.lit (.bool false)], args := [d1, d2, d3] }
  | _ => none }
def HistTellsWrongFalsely : Prop := histTellsRow.holds Try.pinned (OpenSpec.ofChange histTellsWrong)

/-- 'quarrellaw17.HistBegins': WHATEVER THE INPUT: true; the input reads as it did. -/
def histBeginsSpec : ChangeSpec := { name := "histBegins", fn := fun _ => fun
  | [d1, d2] => { results := [.lit (.bool true)], args := [d1, d2] }
  | _ => none }
def histBeginsRow : OpenClaim := { program := "ytjmnbbflahacoaa", sum := "7a469f544c6fc0f59d71ba72560cf6e3548d2f4e674f521482e21be27ab886e7", func := "quarrel/quarrellaw17.HistBegins", spec := "histBegins", unfollowed := true, recurses := true, plainKeys := false, apart := false }
def HistBeginsSaid : Prop := histBeginsRow.holds Try.pinned (OpenSpec.ofChange histBeginsSpec)

/-- ITS FALSE NEIGHBOUR: 'it returns false'. Refute it at one input. -/
def histBeginsWrong : ChangeSpec := { name := "histBegins", fn := fun _ => fun
  | [d1, d2] => { results := [.lit (.bool false)], args := [d1, d2] }
  | _ => none }
def HistBeginsWrongFalsely : Prop := histBeginsRow.holds Try.pinned (OpenSpec.ofChange histBeginsWrong)

/-- 'quarrellaw18.ModelApart': WHATEVER THE INPUT: true; the input reads as it did. -/
def modelApartSpec : ChangeSpec := { name := "modelApart", fn := fun _ => fun
  | [d1, d2, d3] => { results := [.lit (.bool true)], args := [d1, d2, d3] }
  | _ => none }
def modelApartRow : OpenClaim := { program := "ytjmnbbflahacoaa", sum := "7a469f544c6fc0f59d71ba72560cf6e3548d2f4e674f521482e21be27ab886e7", func := "quarrel/quarrellaw18.ModelApart", spec := "modelApart", unfollowed := true, recurses := true, plainKeys := false, apart := false }
def ModelApartSaid : Prop := modelApartRow.holds Try.pinned (OpenSpec.ofChange modelApartSpec)

/-- ITS FALSE NEIGHBOUR: 'it returns false'. Refute it at one input. -/
def modelApartWrong : ChangeSpec := { name := "modelApart", fn := fun _ => fun
  | [d1, d2, d3] => { results := [.lit (.bool false)], args := [d1, d2, d3] }
  | _ => none }
def ModelApartWrongFalsely : Prop := modelApartRow.holds Try.pinned (OpenSpec.ofChange modelApartWrong)

/-- 'quarrellaw18.ModelTells': WHATEVER THE INPUT: true; the input reads as it did. -/
def modelTellsSpec : ChangeSpec := { name := "modelTells", fn := fun _ => fun
  | [d1, d2] => { results := [.lit (.bool true)], args := [d1, d2] }
  | _ => none }
def modelTellsRow : OpenClaim := { program := "ytjmnbbflahacoaa", sum := "7a469f544c6fc0f59d71ba72560cf6e3548d2f4e674f521482e21be27ab886e7", func := "quarrel/quarrellaw18.ModelTells", spec := "modelTells", unfollowed := true, recurses := true, plainKeys := false, apart := false }
def ModelTellsSaid : Prop := modelTellsRow.holds Try.pinned (OpenSpec.ofChange modelTellsSpec)

/-- ITS FALSE NEIGHBOUR: 'it returns false'. Refute it at one input. -/
def modelTellsWrong : ChangeSpec := { name := "modelTells", fn := fun _ => fun
  | [d1, d2] => { results := [.lit (.bool false)], args := [d1, d2] }
  | _ => none }
def ModelTellsWrongFalsely : Prop := modelTellsRow.holds Try.pinned (OpenSpec.ofChange modelTellsWrong)

/-- 'quarrellaw18.ModelBegins': WHATEVER THE INPUT: true; the input reads as it did. -/
def modelBeginsSpec : ChangeSpec := { name := "modelBegins", fn := fun _ => fun
  | [d1, d2, d3] => { results := [.lit (.bool true)], args := [d1, d2, d3] }
  | _ => none }
def modelBeginsRow : OpenClaim := { program := "ytjmnbbflahacoaa", sum := "7a469f544c6fc0f59d71ba72560cf6e3548d2f4e674f521482e21be27ab886e7", func := "quarrel/quarrellaw18.ModelBegins", spec := "modelBegins", unfollowed := true, recurses := true, plainKeys := false, apart := false }
def ModelBeginsSaid : Prop := modelBeginsRow.holds Try.pinned (OpenSpec.ofChange modelBeginsSpec)

/-- ITS FALSE NEIGHBOUR: 'it returns false'. Refute it at one input. -/
def modelBeginsWrong : ChangeSpec := { name := "modelBegins", fn := fun _ => fun
  | [d1, d2, d3] => { results := [.lit (.bool false)], args := [d1, d2, d3] }
  | _ => none }
def ModelBeginsWrongFalsely : Prop := modelBeginsRow.holds Try.pinned (OpenSpec.ofChange modelBeginsWrong)

/-- 'quarrellaw18.ModelFits': WHATEVER THE INPUT: true; the input reads as it did. -/
def modelFitsSpec : ChangeSpec := { name := "modelFits", fn := fun _ => fun
  | [d1, d2] => { results := [.lit (.bool true)], args := [d1, d2] }
  | _ => none }
def modelFitsRow : OpenClaim := { program := "ytjmnbbflahacoaa", sum := "7a469f544c6fc0f59d71ba72560cf6e3548d2f4e674f521482e21be27ab886e7", func := "quarrel/quarrellaw18.ModelFits", spec := "modelFits", unfollowed := true, recurses := true, plainKeys := false, apart := false }
def ModelFitsSaid : Prop := modelFitsRow.holds Try.pinned (OpenSpec.ofChange modelFitsSpec)

/-- ITS FALSE NEIGHBOUR: 'it returns false'. Refute it at one input. -/
def modelFitsWrong : ChangeSpec := { name := "modelFits", fn := fun _ => fun
  | [d1, d2] => { results := [.lit (.bool false)], args := [d1, d2] }
  | _ => none }
def ModelFitsWrongFalsely : Prop := modelFitsRow.holds Try.pinned (OpenSpec.ofChange modelFitsWrong)

/-- 'quarrellaw18.ModelReads': WHATEVER THE INPUT: true; the input reads as it did. -/
def modelReadsSpec : ChangeSpec := { name := "modelReads", fn := fun _ => fun
  | [d1, d2, d3, d4] => { results := [.lit (.bool true)], args := [d1, d2, d3, d4] }
  | _ => none }
def modelReadsRow : OpenClaim := { program := "ytjmnbbflahacoaa", sum := "7a469f544c6fc0f59d71ba72560cf6e3548d2f4e674f521482e21be27ab886e7", func := "quarrel/quarrellaw18.ModelReads", spec := "modelReads", unfollowed := true, recurses := true, plainKeys := false, apart := false }
def ModelReadsSaid : Prop := modelReadsRow.holds Try.pinned (OpenSpec.ofChange modelReadsSpec)

/-- ITS FALSE NEIGHBOUR: 'it returns false'. Refute it at one input. -/
def modelReadsWrong : ChangeSpec := { name := "modelReads", fn := fun _ => fun
  | [d1, d2, d3, d4] => { results := [.lit (.bool false)], args := [d1, d2, d3, d4] }
  | _ => none }
def ModelReadsWrongFalsely : Prop := modelReadsRow.holds Try.pinned (OpenSpec.ofChange modelReadsWrong)

/-- 'quarrellaw18.ModelRuns': WHATEVER THE INPUT: true; the input reads as it did. -/
def modelRunsSpec : ChangeSpec := { name := "modelRuns", fn := fun _ => fun
  | [d1, d2, d3] => { results := [.lit (.bool true)], args := [d1, d2, d3] }
  | _ => none }
def modelRunsRow : OpenClaim := { program := "ytjmnbbflahacoaa", sum := "7a469f544c6fc0f59d71ba72560cf6e3548d2f4e674f521482e21be27ab886e7", func := "quarrel/quarrellaw18.ModelRuns", spec := "modelRuns", unfollowed := true, recurses := true, plainKeys := false, apart := false }
def ModelRunsSaid : Prop := modelRunsRow.holds Try.pinned (OpenSpec.ofChange modelRunsSpec)

/-- ITS FALSE NEIGHBOUR: 'it returns false'. Refute it at one input. -/
def modelRunsWrong : ChangeSpec := { name := "modelRuns", fn := fun _ => fun
  | [d1, d2, d3] => { results := [.lit (.bool false)], args := [d1, d2, d3] }
  | _ => none }
def ModelRunsWrongFalsely : Prop := modelRunsRow.holds Try.pinned (OpenSpec.ofChange modelRunsWrong)

/-- 'quarrellaw19.OpaqueWithin': WHATEVER THE INPUT: true; the input reads as it did. -/
def opaqueWithinSpec : ChangeSpec := { name := "opaqueWithin", fn := fun _ => fun
  | [d1, d2] => { results := [.lit (.bool true)], args := [d1, d2] }
  | _ => none }
def opaqueWithinRow : OpenClaim := { program := "ytjmnbbflahacoaa", sum := "7a469f544c6fc0f59d71ba72560cf6e3548d2f4e674f521482e21be27ab886e7", func := "quarrel/quarrellaw19.OpaqueWithin", spec := "opaqueWithin", unfollowed := true, recurses := true, plainKeys := false, apart := false }
def OpaqueWithinSaid : Prop := opaqueWithinRow.holds Try.pinned (OpenSpec.ofChange opaqueWithinSpec)

/-- ITS FALSE NEIGHBOUR: 'it returns false'. Refute it at one input. -/
def opaqueWithinWrong : ChangeSpec := { name := "opaqueWithin", fn := fun _ => fun
  | [d1, d2] => { results := [.lit (.bool false)], args := [d1, d2] }
  | _ => none }
def OpaqueWithinWrongFalsely : Prop := opaqueWithinRow.holds Try.pinned (OpenSpec.ofChange opaqueWithinWrong)

/-- 'quarrellaw19.OpaqueOrder': WHATEVER THE INPUT: true; the input reads as it did. -/
def opaqueOrderSpec : ChangeSpec := { name := "opaqueOrder", fn := fun _ => fun
  | [d1, d2] => { results := [.lit (.bool true)], args := [d1, d2] }
  | _ => none }
def opaqueOrderRow : OpenClaim := { program := "ytjmnbbflahacoaa", sum := "7a469f544c6fc0f59d71ba72560cf6e3548d2f4e674f521482e21be27ab886e7", func := "quarrel/quarrellaw19.OpaqueOrder", spec := "opaqueOrder", unfollowed := true, recurses := true, plainKeys := false, apart := false }
def OpaqueOrderSaid : Prop := opaqueOrderRow.holds Try.pinned (OpenSpec.ofChange opaqueOrderSpec)

/-- ITS FALSE NEIGHBOUR: 'it returns false'. Refute it at one input. -/
def opaqueOrderWrong : ChangeSpec := { name := "opaqueOrder", fn := fun _ => fun
  | [d1, d2] => { results := [.lit (.bool false)], args := [d1, d2] }
  | _ => none }
def OpaqueOrderWrongFalsely : Prop := opaqueOrderRow.holds Try.pinned (OpenSpec.ofChange opaqueOrderWrong)

/-- 'quarrellaw19.OpaqueChecks': WHATEVER THE INPUT: true; the input reads as it did. -/
def opaqueChecksSpec : ChangeSpec := { name := "opaqueChecks", fn := fun _ => fun
  | [d1, d2] => { results := [.lit (.bool true)], args := [d1, d2] }
  | _ => none }
def opaqueChecksRow : OpenClaim := { program := "ytjmnbbflahacoaa", sum := "7a469f544c6fc0f59d71ba72560cf6e3548d2f4e674f521482e21be27ab886e7", func := "quarrel/quarrellaw19.OpaqueChecks", spec := "opaqueChecks", unfollowed := true, recurses := true, plainKeys := false, apart := false }
def OpaqueChecksSaid : Prop := opaqueChecksRow.holds Try.pinned (OpenSpec.ofChange opaqueChecksSpec)

/-- ITS FALSE NEIGHBOUR: 'it returns false'. Refute it at one input. -/
def opaqueChecksWrong : ChangeSpec := { name := "opaqueChecks", fn := fun _ => fun
  | [d1, d2] => { results := [.lit (.bool false)], args := [d1, d2] }
  | _ => none }
def OpaqueChecksWrongFalsely : Prop := opaqueChecksRow.holds Try.pinned (OpenSpec.ofChange opaqueChecksWrong)

/-- 'quarrellaw19.OpaqueSpoilt': WHATEVER THE INPUT: true; the input reads as it did. -/
def opaqueSpoiltSpec : ChangeSpec := { name := "opaqueSpoilt", fn := fun _ => fun
  | [d1, d2, d3, d4] => { results := [.lit (.bool true)], args := [d1, d2, d3, d4] }
  | _ => none }
def opaqueSpoiltRow : OpenClaim := { program := "ytjmnbbflahacoaa", sum := "7a469f544c6fc0f59d71ba72560cf6e3548d2f4e674f521482e21be27ab886e7", func := "quarrel/quarrellaw19.OpaqueSpoilt", spec := "opaqueSpoilt", unfollowed := true, recurses := true, plainKeys := false, apart := false }
def OpaqueSpoiltSaid : Prop := opaqueSpoiltRow.holds Try.pinned (OpenSpec.ofChange opaqueSpoiltSpec)

/-- ITS FALSE NEIGHBOUR: 'it returns false'. Refute it at one input. -/
def opaqueSpoiltWrong : ChangeSpec := { name := "opaqueSpoilt", fn := fun _ => fun
  | [d1, d2, d3, d4] => { results := [.lit (.bool false)], args := [d1, d2, d3, d4] }
  | _ => none }
def OpaqueSpoiltWrongFalsely : Prop := opaqueSpoiltRow.holds Try.pinned (OpenSpec.ofChange opaqueSpoiltWrong)

/-- 'quarrellaw19.OpaqueBegins': WHATEVER THE INPUT: true; the input reads as it did. -/
def opaqueBeginsSpec : ChangeSpec := { name := "opaqueBegins", fn := fun _ => fun
  | [d1, d2, d3] => { results := [.lit (.bool true)], args := [d1, d2, d3] }
  | _ => none }
def opaqueBeginsRow : OpenClaim := { program := "ytjmnbbflahacoaa", sum := "7a469f544c6fc0f59d71ba72560cf6e3548d2f4e674f521482e21be27ab886e7", func := "quarrel/quarrellaw19.OpaqueBegins", spec := "opaqueBegins", unfollowed := true, recurses := true, plainKeys := false, apart := false }
def OpaqueBeginsSaid : Prop := opaqueBeginsRow.holds Try.pinned (OpenSpec.ofChange opaqueBeginsSpec)

/-- ITS FALSE NEIGHBOUR: 'it returns false'. Refute it at one input. -/
def opaqueBeginsWrong : ChangeSpec := { name := "opaqueBegins", fn := fun _ => fun
  | [d1, d2, d3] => { results := [.lit (.bool false)], args := [d1, d2, d3] }
  | _ => none }
def OpaqueBeginsWrongFalsely : Prop := opaqueBeginsRow.holds Try.pinned (OpenSpec.ofChange opaqueBeginsWrong)

/- THE SECOND FORM. 'bulk': how many values and letters a reading holds, each counted each time it is reached (what is shared counts as often as it is met; a slice's spare places count too). A statement '..UptoSaid' is the law's where the arguments, and the package variables that the reading takes, are together of bulk at most 1048576: NARROWER than '..Said'. Prove '..Said' where nothing that the law and all that it calls make is longer than what came in: it says more and counts as full. Else prove '..UptoSaid'. A law counts once. -/
mutual
def uptoBulk {H : Type} : DataW H → Nat
  | .lit (.string bytes) => bytes.length + 1
  | .lit _ => 1
  | .nil => 1
  | .ptr d => uptoBulk d + 1
  | .slice elems spare => uptoBulkAll elems + uptoBulkAll spare + 1
  | .agg parts => uptoBulkAll parts + 1
  | .iface _ d => uptoBulk d + 1
  | .map entries => uptoBulkEntries entries + 1
  | .held _ => 1
def uptoBulkAll {H : Type} : List (DataW H) → Nat
  | [] => 0
  | d :: r => uptoBulk d + uptoBulkAll r
def uptoBulkEntries {H : Type} : List (Lit × DataW H) → Nat
  | [] => 0
  | x :: r => uptoBulkEntry x + uptoBulkEntries r
def uptoBulkEntry {H : Type} : Lit × DataW H → Nat
  | (.string bytes, d) => bytes.length + uptoBulk d + 1
  | (_, d) => uptoBulk d + 1
 end
def uptoSmall : (H : Type) → List (DataW H) → Bool := fun _ ds => decide (uptoBulkAll ds ≤ 1048576)
def OpenSpec.upto (s : _root_.Go.ChangeSpec) : _root_.Go.OpenSpec := { _root_.Go.OpenSpec.ofChange s with cond := some uptoSmall }

/-- 'quarrellaw17.HistPlaces', WHERE WHAT IT READS IS OF BULK AT MOST 1048576: true; the input reads as it did. -/
def histPlacesUptoRow : OpenClaim := { program := "ytjmnbbflahacoaa", sum := "7a469f544c6fc0f59d71ba72560cf6e3548d2f4e674f521482e21be27ab886e7", func := "quarrel/quarrellaw17.HistPlaces", spec := "histPlaces", unfollowed := true, recurses := true, plainKeys := false, apart := false, narrowed := true }
def HistPlacesUptoSaid : Prop := histPlacesUptoRow.holds Try.pinned (OpenSpec.upto histPlacesSpec)

/-- 'quarrellaw17.HistParts', WHERE WHAT IT READS IS OF BULK AT MOST 1048576: true; the input reads as it did. -/
def histPartsUptoRow : OpenClaim := { program := "ytjmnbbflahacoaa", sum := "7a469f544c6fc0f59d71ba72560cf6e3548d2f4e674f521482e21be27ab886e7", func := "quarrel/quarrellaw17.HistParts", spec := "histParts", unfollowed := true, recurses := true, plainKeys := false, apart := false, narrowed := true }
def HistPartsUptoSaid : Prop := histPartsUptoRow.holds Try.pinned (OpenSpec.upto histPartsSpec)

/-- 'quarrellaw17.HistBefore', WHERE WHAT IT READS IS OF BULK AT MOST 1048576: true; the input reads as it did. -/
def histBeforeUptoRow : OpenClaim := { program := "ytjmnbbflahacoaa", sum := "7a469f544c6fc0f59d71ba72560cf6e3548d2f4e674f521482e21be27ab886e7", func := "quarrel/quarrellaw17.HistBefore", spec := "histBefore", unfollowed := true, recurses := true, plainKeys := false, apart := false, narrowed := true }
def HistBeforeUptoSaid : Prop := histBeforeUptoRow.holds Try.pinned (OpenSpec.upto histBeforeSpec)

/-- 'quarrellaw17.HistTells', WHERE WHAT IT READS IS OF BULK AT MOST 1048576: true; the input reads as it did. -/
def histTellsUptoRow : OpenClaim := { program := "ytjmnbbflahacoaa", sum := "7a469f544c6fc0f59d71ba72560cf6e3548d2f4e674f521482e21be27ab886e7", func := "quarrel/quarrellaw17.HistTells", spec := "histTells", unfollowed := true, recurses := true, plainKeys := false, apart := false, narrowed := true }
def HistTellsUptoSaid : Prop := histTellsUptoRow.holds Try.pinned (OpenSpec.upto histTellsSpec)

/-- 'quarrellaw17.HistBegins', WHERE WHAT IT READS IS OF BULK AT MOST 1048576: true; the input reads as it did. -/
def histBeginsUptoRow : OpenClaim := { program := "ytjmnbbflahacoaa", sum := "7a469f544c6fc0f59d71ba72560cf6e3548d2f4e674f521482e21be27ab886e7", func := "quarrel/quarrellaw17.HistBegins", spec := "histBegins", unfollowed := true, recurses := true, plainKeys := false, apart := false, narrowed := true }
def HistBeginsUptoSaid : Prop := histBeginsUptoRow.holds Try.pinned (OpenSpec.upto histBeginsSpec)

/-- 'quarrellaw18.ModelApart', WHERE WHAT IT READS IS OF BULK AT MOST 1048576: true; the input reads as it did. -/
def modelApartUptoRow : OpenClaim := { program := "ytjmnbbflahacoaa", sum := "7a469f544c6fc0f59d71ba72560cf6e3548d2f4e674f521482e21be27ab886e7", func := "quarrel/quarrellaw18.ModelApart", spec := "modelApart", unfollowed := true, recurses := true, plainKeys := false, apart := false, narrowed := true }
def ModelApartUptoSaid : Prop := modelApartUptoRow.holds Try.pinned (OpenSpec.upto modelApartSpec)

/-- 'quarrellaw18.ModelTells', WHERE WHAT IT READS IS OF BULK AT MOST 1048576: true; the input reads as it did. -/
def modelTellsUptoRow : OpenClaim := { program := "ytjmnbbflahacoaa", sum := "7a469f544c6fc0f59d71ba72560cf6e3548d2f4e674f521482e21be27ab886e7", func := "quarrel/quarrellaw18.ModelTells", spec := "modelTells", unfollowed := true, recurses := true, plainKeys := false, apart := false, narrowed := true }
def ModelTellsUptoSaid : Prop := modelTellsUptoRow.holds Try.pinned (OpenSpec.upto modelTellsSpec)

/-- 'quarrellaw18.ModelBegins', WHERE WHAT IT READS IS OF BULK AT MOST 1048576: true; the input reads as it did. -/
def modelBeginsUptoRow : OpenClaim := { program := "ytjmnbbflahacoaa", sum := "7a469f544c6fc0f59d71ba72560cf6e3548d2f4e674f521482e21be27ab886e7", func := "quarrel/quarrellaw18.ModelBegins", spec := "modelBegins", unfollowed := true, recurses := true, plainKeys := false, apart := false, narrowed := true }
def ModelBeginsUptoSaid : Prop := modelBeginsUptoRow.holds Try.pinned (OpenSpec.upto modelBeginsSpec)

/-- 'quarrellaw18.ModelFits', WHERE WHAT IT READS IS OF BULK AT MOST 1048576: true; the input reads as it did. -/
def modelFitsUptoRow : OpenClaim := { program := "ytjmnbbflahacoaa", sum := "7a469f544c6fc0f59d71ba72560cf6e3548d2f4e674f521482e21be27ab886e7", func := "quarrel/quarrellaw18.ModelFits", spec := "modelFits", unfollowed := true, recurses := true, plainKeys := false, apart := false, narrowed := true }
def ModelFitsUptoSaid : Prop := modelFitsUptoRow.holds Try.pinned (OpenSpec.upto modelFitsSpec)

/-- 'quarrellaw18.ModelReads', WHERE WHAT IT READS IS OF BULK AT MOST 1048576: true; the input reads as it did. -/
def modelReadsUptoRow : OpenClaim := { program := "ytjmnbbflahacoaa", sum := "7a469f544c6fc0f59d71ba72560cf6e3548d2f4e674f521482e21be27ab886e7", func := "quarrel/quarrellaw18.ModelReads", spec := "modelReads", unfollowed := true, recurses := true, plainKeys := false, apart := false, narrowed := true }
def ModelReadsUptoSaid : Prop := modelReadsUptoRow.holds Try.pinned (OpenSpec.upto modelReadsSpec)

/-- 'quarrellaw18.ModelRuns', WHERE WHAT IT READS IS OF BULK AT MOST 1048576: true; the input reads as it did. -/
def modelRunsUptoRow : OpenClaim := { program := "ytjmnbbflahacoaa", sum := "7a469f544c6fc0f59d71ba72560cf6e3548d2f4e674f521482e21be27ab886e7", func := "quarrel/quarrellaw18.ModelRuns", spec := "modelRuns", unfollowed := true, recurses := true, plainKeys := false, apart := false, narrowed := true }
def ModelRunsUptoSaid : Prop := modelRunsUptoRow.holds Try.pinned (OpenSpec.upto modelRunsSpec)

/-- 'quarrellaw19.OpaqueWithin', WHERE WHAT IT READS IS OF BULK AT MOST 1048576: true; the input reads as it did. -/
def opaqueWithinUptoRow : OpenClaim := { program := "ytjmnbbflahacoaa", sum := "7a469f544c6fc0f59d71ba72560cf6e3548d2f4e674f521482e21be27ab886e7", func := "quarrel/quarrellaw19.OpaqueWithin", spec := "opaqueWithin", unfollowed := true, recurses := true, plainKeys := false, apart := false, narrowed := true }
def OpaqueWithinUptoSaid : Prop := opaqueWithinUptoRow.holds Try.pinned (OpenSpec.upto opaqueWithinSpec)

/-- 'quarrellaw19.OpaqueOrder', WHERE WHAT IT READS IS OF BULK AT MOST 1048576: true; the input reads as it did. -/
def opaqueOrderUptoRow : OpenClaim := { program := "ytjmnbbflahacoaa", sum := "7a469f544c6fc0f59d71ba72560cf6e3548d2f4e674f521482e21be27ab886e7", func := "quarrel/quarrellaw19.OpaqueOrder", spec := "opaqueOrder", unfollowed := true, recurses := true, plainKeys := false, apart := false, narrowed := true }
def OpaqueOrderUptoSaid : Prop := opaqueOrderUptoRow.holds Try.pinned (OpenSpec.upto opaqueOrderSpec)

/-- 'quarrellaw19.OpaqueChecks', WHERE WHAT IT READS IS OF BULK AT MOST 1048576: true; the input reads as it did. -/
def opaqueChecksUptoRow : OpenClaim := { program := "ytjmnbbflahacoaa", sum := "7a469f544c6fc0f59d71ba72560cf6e3548d2f4e674f521482e21be27ab886e7", func := "quarrel/quarrellaw19.OpaqueChecks", spec := "opaqueChecks", unfollowed := true, recurses := true, plainKeys := false, apart := false, narrowed := true }
def OpaqueChecksUptoSaid : Prop := opaqueChecksUptoRow.holds Try.pinned (OpenSpec.upto opaqueChecksSpec)

/-- 'quarrellaw19.OpaqueSpoilt', WHERE WHAT IT READS IS OF BULK AT MOST 1048576: true; the input reads as it did. -/
def opaqueSpoiltUptoRow : OpenClaim := { program := "ytjmnbbflahacoaa", sum := "7a469f544c6fc0f59d71ba72560cf6e3548d2f4e674f521482e21be27ab886e7", func := "quarrel/quarrellaw19.OpaqueSpoilt", spec := "opaqueSpoilt", unfollowed := true, recurses := true, plainKeys := false, apart := false, narrowed := true }
def OpaqueSpoiltUptoSaid : Prop := opaqueSpoiltUptoRow.holds Try.pinned (OpenSpec.upto opaqueSpoiltSpec)

/-- 'quarrellaw19.OpaqueBegins', WHERE WHAT IT READS IS OF BULK AT MOST 1048576: true; the input reads as it did. -/
def opaqueBeginsUptoRow : OpenClaim := { program := "ytjmnbbflahacoaa", sum := "7a469f544c6fc0f59d71ba72560cf6e3548d2f4e674f521482e21be27ab886e7", func := "quarrel/quarrellaw19.OpaqueBegins", spec := "opaqueBegins", unfollowed := true, recurses := true, plainKeys := false, apart := false, narrowed := true }
def OpaqueBeginsUptoSaid : Prop := opaqueBeginsUptoRow.holds Try.pinned (OpenSpec.upto opaqueBeginsSpec)

end Rows
end Go.Proofs.Ytjmnbbflahacoaa
