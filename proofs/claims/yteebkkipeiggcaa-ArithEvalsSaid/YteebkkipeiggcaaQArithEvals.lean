/- ArithEvals holds: for every two lists of parts and every operator's name the law answers true and leaves its arguments alone; no conditions. -/
import Derived.Test.YteebkkipeiggcaaB4
import Derived.Test.YteebkkipeiggcaaB5
set_option linter.unusedVariables false
set_option linter.unusedSimpArgs false
namespace Go.Proofs.Yteebkkipeiggcaa
open Go Go.Vm Go.ChangeShapes Go.WideShapes Go.ChangeAt Go.RowKit Go.ChangeMaps

set_option maxRecDepth 100000 in
theorem arithEvals_lifted (os : Os) (started : os.Started) (H : Type) (enc : TypeId × Value → H) :
    ReturnsInHanded {} Try.checked os 13 .any (Rows.arithEvalsSpec.pre6 enc Try.prog Try.f13 Rows.arithEvalsRow.domain false) (Rows.arithEvalsSpec.post enc Try.prog Try.f13 false true false false) := by
  refine returnsInHanded_of_change (C := Try.checked) Try.own started (by kernel_rfl) Try.func13
    (ChangeSpec.witness6 (enc := enc) (C := Try.checked) false ⟨#[], #[.slice none 0 0, .slice none 0 0, .string ⟨#[]⟩], []⟩ 8 (by kernel_rfl) (by kernel_rfl) (by kernel_rfl) (by kernel_rfl)) ?_
  intro W base args ds gs before hval0 hW hcnd _
  have hval : ∀ (j : Nat) t v, Try.f13.params[j]? = some t → args[j]? = some v → Value.okWide Try.prog W .any base t v := hval0
  have hW' := hW
  obtain ⟨p, q, hA0, hV, rfl, hfz, hnd⟩ := hW
  have hA : DataW.TrodAll enc Try.prog W 0 (fun _ => true) true Try.f13.params.toList args.toList ds p := hA0
  rw [Try.params13] at hA hval
  obtain ⟨v0, v1, v2, d0, d1, d2, p0, p1, p2, rfl, rfl, rfl, h0, h1, h2⟩ := trodAll_three hA
  obtain ⟨rfl, rfl⟩ := trodVars_none hV
  obtain ⟨x0, k0, b0⟩ := arg_parts2 (hval 0 22 v0 rfl rfl) h0
  obtain ⟨x1, k1, b1⟩ := arg_parts2 (hval 1 22 v1 rfl rfl) h1
  obtain ⟨x2, e2, _, _, b2⟩ := open_string Try.underlying9 (hval 2 9 v2 rfl rfl) h2
  subst e2
  have hrun := arithEvals_run x0 x1 x2 b0 b1 b2
  have hvr : VRs (startCx W) [.ro 4 (encP x0), .ro 4 (encP x1), .str x2] [v0, v1, .string x2] := VRs.cons k0 (VRs.cons k1 (VRs.cons .str VRs.nil))
  exact law_end (P := Try.prog) (tb := 4) Try.laidOut (by kernel_rfl) rfl Try.underlying4 rfl ⟨rfl, rfl, rfl⟩ hW' hrun hvr

theorem arithEvals_holds : Rows.ArithEvalsSaid :=
  OpenClaim.holds_of_wide 13 Try.f13 rfl rfl rfl rfl rfl rfl rfl ⟨rfl, rfl, rfl, rfl, rfl⟩ rfl rfl rfl rfl rfl (by kernel_rfl) Try.func13 (by kernel_rfl)
    (of_decide_eq_true (by kernel_rfl)) (by unfold Func.isWrapper; first | (rw [if_pos (by decide +kernel)]; kernel_rfl) | (rw [if_neg (by decide +kernel)]; exact ⟨rfl, rfl⟩))
    (fun os started H enc _ => arithEvals_lifted os started H enc)

#print axioms arithEvals_holds
end Go.Proofs.Yteebkkipeiggcaa
