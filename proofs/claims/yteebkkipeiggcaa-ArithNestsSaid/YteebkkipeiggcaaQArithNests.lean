/- ArithNests holds: for every operator's name and every two lists of parts the law answers true and leaves its arguments alone; no conditions. -/
import Derived.Test.YteebkkipeiggcaaB4
import Derived.Test.YteebkkipeiggcaaB5
set_option linter.unusedVariables false
set_option linter.unusedSimpArgs false
namespace Go.Proofs.Yteebkkipeiggcaa
open Go Go.Vm Go.ChangeShapes Go.WideShapes Go.ChangeAt Go.RowKit Go.ChangeMaps

set_option maxRecDepth 100000 in
theorem arithNests_lifted (os : Os) (started : os.Started) (H : Type) (enc : TypeId × Value → H) :
    ReturnsInHanded {} Try.checked os 11 .any (Rows.arithNestsSpec.pre6 enc Try.prog Try.f11 Rows.arithNestsRow.domain false) (Rows.arithNestsSpec.post enc Try.prog Try.f11 false true false false) := by
  refine returnsInHanded_of_change (C := Try.checked) Try.own started (by kernel_rfl) Try.func11
    (ChangeSpec.witness6 (enc := enc) (C := Try.checked) false ⟨#[], #[.string ⟨#[]⟩, .slice none 0 0, .slice none 0 0], []⟩ 8 (by kernel_rfl) (by kernel_rfl) (by kernel_rfl) (by kernel_rfl)) ?_
  intro W base args ds gs before hval0 hW hcnd _
  have hval : ∀ (j : Nat) t v, Try.f11.params[j]? = some t → args[j]? = some v → Value.okWide Try.prog W .any base t v := hval0
  have hW' := hW
  obtain ⟨p, q, hA0, hV, rfl, hfz, hnd⟩ := hW
  have hA : DataW.TrodAll enc Try.prog W 0 (fun _ => true) true Try.f11.params.toList args.toList ds p := hA0
  rw [Try.params11] at hA hval
  obtain ⟨v0, v1, v2, d0, d1, d2, p0, p1, p2, rfl, rfl, rfl, h0, h1, h2⟩ := trodAll_three hA
  obtain ⟨rfl, rfl⟩ := trodVars_none hV
  obtain ⟨x0, e0, _, _, b0⟩ := open_string Try.underlying9 (hval 0 9 v0 rfl rfl) h0
  subst e0
  obtain ⟨x1, k1, b1⟩ := arg_parts2 (hval 1 22 v1 rfl rfl) h1
  obtain ⟨x2, k2, b2⟩ := arg_parts2 (hval 2 22 v2 rfl rfl) h2
  have hrun := arithNests_run x0 x1 x2 b0 b1 b2
  have hvr : VRs (startCx W) [.str x0, .ro 4 (encP x1), .ro 4 (encP x2)] [.string x0, v1, v2] := VRs.cons .str (VRs.cons k1 (VRs.cons k2 VRs.nil))
  exact law_end (P := Try.prog) (tb := 4) Try.laidOut (by kernel_rfl) rfl Try.underlying4 rfl ⟨rfl, rfl, rfl⟩ hW' hrun hvr

theorem arithNests_holds : Rows.ArithNestsSaid :=
  OpenClaim.holds_of_wide 11 Try.f11 rfl rfl rfl rfl rfl rfl rfl ⟨rfl, rfl, rfl, rfl, rfl⟩ rfl rfl rfl rfl rfl (by kernel_rfl) Try.func11 (by kernel_rfl)
    (of_decide_eq_true (by kernel_rfl)) (by unfold Func.isWrapper; first | (rw [if_pos (by decide +kernel)]; kernel_rfl) | (rw [if_neg (by decide +kernel)]; exact ⟨rfl, rfl⟩))
    (fun os started H enc _ => arithNests_lifted os started H enc)

#print axioms arithNests_holds
end Go.Proofs.Yteebkkipeiggcaa
