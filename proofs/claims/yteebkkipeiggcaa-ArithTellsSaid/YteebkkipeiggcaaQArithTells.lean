/- ArithTells holds: for every two lists of parts the law answers true and leaves its arguments alone; no conditions. -/
import Derived.Test.YteebkkipeiggcaaB4
import Derived.Test.YteebkkipeiggcaaB5
set_option linter.unusedVariables false
set_option linter.unusedSimpArgs false
namespace Go.Proofs.Yteebkkipeiggcaa
open Go Go.Vm Go.ChangeShapes Go.WideShapes Go.ChangeAt Go.RowKit Go.ChangeMaps

set_option maxRecDepth 100000 in
theorem arithTells_lifted (os : Os) (started : os.Started) (H : Type) (enc : TypeId × Value → H) :
    ReturnsInHanded {} Try.checked os 14 .any (Rows.arithTellsSpec.pre6 enc Try.prog Try.f14 Rows.arithTellsRow.domain false) (Rows.arithTellsSpec.post enc Try.prog Try.f14 false true false false) := by
  refine returnsInHanded_of_change (C := Try.checked) Try.own started (by kernel_rfl) Try.func14
    (ChangeSpec.witness6 (enc := enc) (C := Try.checked) false ⟨#[], #[.slice none 0 0, .slice none 0 0], []⟩ 8 (by kernel_rfl) (by kernel_rfl) (by kernel_rfl) (by kernel_rfl)) ?_
  intro W base args ds gs before hval0 hW hcnd _
  have hval : ∀ (j : Nat) t v, Try.f14.params[j]? = some t → args[j]? = some v → Value.okWide Try.prog W .any base t v := hval0
  have hW' := hW
  obtain ⟨p, q, hA0, hV, rfl, hfz, hnd⟩ := hW
  have hA : DataW.TrodAll enc Try.prog W 0 (fun _ => true) true Try.f14.params.toList args.toList ds p := hA0
  rw [Try.params14] at hA hval
  obtain ⟨v0, v1, d0, d1, p0, p1, rfl, rfl, rfl, h0, h1⟩ := trodAll_two hA
  obtain ⟨rfl, rfl⟩ := trodVars_none hV
  obtain ⟨x0, k0, b0⟩ := arg_parts2 (hval 0 22 v0 rfl rfl) h0
  obtain ⟨x1, k1, b1⟩ := arg_parts2 (hval 1 22 v1 rfl rfl) h1
  have hrun := arithTells_run x0 x1 b0 b1
  have hvr : VRs (startCx W) [.ro 4 (encP x0), .ro 4 (encP x1)] [v0, v1] := VRs.cons k0 (VRs.cons k1 VRs.nil)
  exact law_end (P := Try.prog) (tb := 4) Try.laidOut (by kernel_rfl) rfl Try.underlying4 rfl ⟨rfl, rfl, rfl⟩ hW' hrun hvr

theorem arithTells_holds : Rows.ArithTellsSaid :=
  OpenClaim.holds_of_wide 14 Try.f14 rfl rfl rfl rfl rfl rfl rfl ⟨rfl, rfl, rfl, rfl, rfl⟩ rfl rfl rfl rfl rfl (by kernel_rfl) Try.func14 (by kernel_rfl)
    (of_decide_eq_true (by kernel_rfl)) (by unfold Func.isWrapper; first | (rw [if_pos (by decide +kernel)]; kernel_rfl) | (rw [if_neg (by decide +kernel)]; exact ⟨rfl, rfl⟩))
    (fun os started H enc _ => arithTells_lifted os started H enc)

#print axioms arithTells_holds
end Go.Proofs.Yteebkkipeiggcaa
