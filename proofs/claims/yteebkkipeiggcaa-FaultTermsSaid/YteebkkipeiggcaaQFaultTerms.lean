/- FaultTerms holds: for every error, name, parts of a term and number of arguments the law answers true and leaves its arguments alone; no conditions. -/
import Derived.Test.YteebkkipeiggcaaRows
import Derived.Test.YteebkkipeiggcaaLFaultTerms
import Derived.Test.YteebkkipeiggcaaVm29
set_option linter.unusedVariables false
set_option linter.unusedSimpArgs false
namespace Go.Proofs.Yteebkkipeiggcaa
open Go Go.Vm Go.ChangeShapes Go.WideShapes Go.ChangeAt Go.RowKit Go.ChangeMaps

theorem Try.own : ownKnob Try.prog.godebug = none := by kernel_rfl
theorem Try.laidOut : laidOutB Try.prog = true := by kernel_rfl

theorem part_cells {H : Type} {enc : TypeId × Value → H} {W : World} : ∀ n r y, DataW.trod enc Try.prog W 0 (fun _ => true) true n 107 r = some y → ∃ p : Pt, r = [.int .i64 p.kind, .int .i64 p.n, .string p.s, .int .u8 p.args] ∧ PtOk p :=
  fun n r y h => by
    obtain ⟨p, e, h1, h2, h3, h4, h5, h6, h7⟩ := open_part (P := Try.prog) Try.underlying107 Try.underlying3 Try.underlying2 Try.underlying9 Try.underlying5 (by kernel_rfl) (by kernel_rfl) (by kernel_rfl) (by kernel_rfl) (by kernel_rfl) h
    exact ⟨p, e, h1, h2, h3, h4, h5, h6, h7⟩

set_option maxRecDepth 100000 in
theorem ft_lifted (os : Os) (started : os.Started) (H : Type) (enc : TypeId × Value → H) :
    ReturnsInHanded {} Try.checked os 3 .any (Rows.faultTermsSpec.pre6 enc Try.prog Try.f3 Rows.faultTermsRow.domain false) (Rows.faultTermsSpec.post enc Try.prog Try.f3 false true false false) := by
  refine returnsInHanded_of_change (C := Try.checked) Try.own started (by kernel_rfl) Try.func3
    (ChangeSpec.witness6 (enc := enc) (C := Try.checked) false ⟨#[], #[.agg #[.int .i64 0, .string ⟨#[]⟩, .slice none 0 0, .int .i64 0]], []⟩ 8 (by kernel_rfl) (by kernel_rfl) (by kernel_rfl) (by kernel_rfl)) ?_
  intro W base args ds gs before hval0 hW hcnd _
  have hval : ∀ (j : Nat) t v, Try.f3.params[j]? = some t → args[j]? = some v → Value.okWide Try.prog W .any base t v := hval0
  have hW' := hW
  obtain ⟨p, q, hA0, hV, rfl, hfz, hnd⟩ := hW
  have hA : DataW.TrodAll enc Try.prog W 0 (fun _ => true) true Try.f3.params.toList args.toList ds p := hA0
  rw [Try.params3] at hA hval
  obtain ⟨v0, d0, rfl, rfl, h0⟩ := trodAll_one hA
  obtain ⟨rfl, rfl⟩ := trodVars_none hV
  obtain ⟨q0, q1, c, q3, y2, p2, rfl, w1, hc, f2⟩ := open_asked Try.underlying24 Try.underlying3 Try.underlying9 Try.underlying22 (by kernel_rfl) (by kernel_rfl) (by kernel_rfl) (by kernel_rfl) (by kernel_rfl) (hval 0 24 v0 rfl rfl) h0
  obtain ⟨l, hl, hll, hlp⟩ := open_parts Try.underlying22 (by kernel_rfl) hc f2 part_cells
  have hrun := faultTerms_run q0 q1 l q3 (fun p hp => ⟨(hlp p hp).1, (hlp p hp).2.1⟩)
  have hvr : VRs (startCx W) [.agg [.int .i64 q0, .str q1, .ro 4 (encP l), .int .i64 q3]] [.agg #[.int .i64 q0, .string q1, c, .int .i64 q3]] :=
    VRs.cons (VR.of_agg (VRs.cons .int (VRs.cons .str (VRs.cons hl (VRs.cons .int VRs.nil)))) (by intro v hv; simp at hv; rcases hv with rfl | rfl | rfl | rfl <;> first | rfl | exact hl.one rfl)) VRs.nil
  exact law_end (P := Try.prog) (tb := 4) Try.laidOut (by kernel_rfl) rfl Try.underlying4 rfl ⟨rfl, rfl, rfl⟩ hW' hrun hvr

theorem ft_holds : Rows.FaultTermsSaid :=
  OpenClaim.holds_of_wide 3 Try.f3 rfl rfl rfl rfl rfl rfl rfl ⟨rfl, rfl, rfl, rfl, rfl⟩ rfl rfl rfl rfl rfl (by kernel_rfl) Try.func3 (by kernel_rfl)
    (of_decide_eq_true (by kernel_rfl)) (by unfold Func.isWrapper; first | (rw [if_pos (by decide +kernel)]; kernel_rfl) | (rw [if_neg (by decide +kernel)]; exact ⟨rfl, rfl⟩))
    (fun os started H enc _ => ft_lifted os started H enc)

#print axioms ft_holds
end Go.Proofs.Yteebkkipeiggcaa
