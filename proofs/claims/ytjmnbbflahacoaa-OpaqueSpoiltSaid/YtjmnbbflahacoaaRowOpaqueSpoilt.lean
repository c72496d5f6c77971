/- OpaqueSpoilt: the row: for every input the law answers true, and its arguments read as they did. No condition. -/
import Derived.Test.YtjmnbbflahacoaaRows
import Derived.Test.YtjmnbbflahacoaaKit
import Derived.Test.YtjmnbbflahacoaaLawSpoilt
namespace Go.Proofs.Ytjmnbbflahacoaa.rowOpaqueSpoilt
open Go.ChangeShapes Go.WideShapes Go.ChangeAt Go.RowKit Go.Proofs.Ytjmnbbflahacoaa.Kit
set_option linter.unusedVariables false
set_option maxRecDepth 100000 in
theorem lifted (os : Os) (started : os.Started) (H : Type) (enc : TypeId × Value → H) :
    ReturnsInHanded {} Try.checked os 17 .any (Rows.opaqueSpoiltSpec.pre6 enc Try.prog Try.f17 Rows.opaqueSpoiltRow.domain false) (Rows.opaqueSpoiltSpec.post enc Try.prog Try.f17 false true false false) := by
  refine returnsInHanded_of_change_sized (C := Try.checked) own started (by kernel_rfl) Try.func17
    (ChangeSpec.witness6 (enc := enc) (C := Try.checked) false ⟨#[], #[.slice none 0 0, .slice none 0 0, .int .u8 0, .int .i64 0], []⟩ 8 (by kernel_rfl) (by kernel_rfl) (by kernel_rfl) (by kernel_rfl)) ?_
  intro W base args ds gs before hval0 hW hcnd hsz0 _
  have hsz : (DataW.weightsEach Try.prog (Try.f17.params.toList ++ Rows.opaqueSpoiltSpec.plain.varTypes Try.prog) (ds ++ gs)).all (· ≤ reachBytes) = true := hsz0
  have hval : ∀ (j : Nat) t v, Try.f17.params[j]? = some t → args[j]? = some v → Value.okWide Try.prog W .any base t v := hval0
  have hW' := hW
  obtain ⟨p, q, hA0, hV, rfl, hfz, hnd⟩ := hW
  have hA : DataW.TrodAll enc Try.prog W 0 (fun _ => true) true Try.f17.params.toList args.toList ds p := hA0
  rw [Try.params17] at hA hval hsz
  obtain ⟨v0, vs0, d0, ds0, p0, q0, hargs, rfl, rfl, h0, r0⟩ := trodAll_cons hA
  obtain ⟨v1, vs1, d1, ds1, p1, q1, rfl, rfl, rfl, h1, r1⟩ := trodAll_cons r0
  obtain ⟨v2, vs2, d2, ds2, p2, q2, rfl, rfl, rfl, h2, r2⟩ := trodAll_cons r1
  obtain ⟨v3, vs3, d3, ds3, p3, q3, rfl, rfl, rfl, h3, r3⟩ := trodAll_cons r2
  obtain ⟨rfl, rfl, rfl⟩ := trodAll_nil r3
  obtain rfl : args = #[v0, v1, v2, v3] := by cases args; simp_all
  obtain ⟨rfl, rfl⟩ := trodVars_none hV
  refine (Go.Proofs.Ytjmnbbflahacoaa.Opq.walk_opaqueSpoilt W base (hval 0 47 v0 rfl rfl) h0 (hval 1 22 v1 rfl rfl) h1 (hval 2 5 v2 rfl rfl) h2 (hval 3 2 v3 rfl rfl) h3).mono fun e W' ⟨he, bel⟩ => ?_
  subst he
  exact ⟨_, rfl, post_law hW' rfl laidOut Try.underlying4 rfl (by kernel_rfl) rfl rfl rfl bel⟩
theorem over : Rows.opaqueSpoiltRow.holds Try.pinned (OpenSpec.ofChange Rows.opaqueSpoiltSpec) :=
  OpenClaim.holds_of_wide 17 Try.f17 rfl rfl rfl rfl rfl rfl rfl ⟨rfl, rfl, rfl, rfl, rfl⟩ rfl rfl rfl rfl rfl (by kernel_rfl) Try.func17 (by kernel_rfl)
    (of_decide_eq_true (by kernel_rfl)) (by unfold Func.isWrapper; first | (rw [if_pos (by decide +kernel)]; kernel_rfl) | (rw [if_neg (by decide +kernel)]; exact ⟨rfl, rfl⟩))
    (fun os started H enc _ => lifted os started H enc)
end Go.Proofs.Ytjmnbbflahacoaa.rowOpaqueSpoilt
namespace Go.Proofs.Ytjmnbbflahacoaa
theorem opaqueSpoilt_holds : Rows.OpaqueSpoiltSaid := rowOpaqueSpoilt.over
#print axioms opaqueSpoilt_holds
end Go.Proofs.Ytjmnbbflahacoaa
