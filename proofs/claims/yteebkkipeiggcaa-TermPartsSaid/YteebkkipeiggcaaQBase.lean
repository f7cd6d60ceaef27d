/- What all rows of this seat use. -/
import Derived.Test.YteebkkipeiggcaaRows
import Derived.Test.YteebkkipeiggcaaTT
import Derived.Test.YteebkkipeiggcaaVm29
set_option linter.unusedVariables false
set_option linter.unusedSimpArgs false
namespace Go.Proofs.Yteebkkipeiggcaa
open Go Go.Vm Go.ChangeShapes Go.WideShapes Go.ChangeAt Go.RowKit Go.ChangeMaps

theorem Try.own : ownKnob Try.prog.godebug = none := by kernel_rfl
theorem Try.laidOut : laidOutB Try.prog = true := by kernel_rfl

theorem part_cells {H : Type} {enc : TypeId × Value → H} {W : World} : ∀ n r y, DataW.trod enc Try.prog W 0 (fun _ => true) true n 107 r = some y → ∃ p : Pt, r = [.int .i64 p.kind, .int .i64 p.n, .string p.s, .int .u8 p.args] ∧ PtOk p :=
  fun n r y h => by
    obtain ⟨p, e, h1, h2, h3, h4, h5, h6, h7⟩ := open_part (P := Try.prog) Try.underlying107 Try.underlying3 Try.underlying2 Try.underlying9 Try.underlying5 (by kernel_rfl) (by kernel_rfl) (by kernel_rfl) (by kernel_rfl) (by kernel_rfl) h
    exact ⟨p, e, h1, h2, h3, h4, h5, h6, h7⟩

set_option maxRecDepth 100000 in
/-- An argument that is a list of parts. -/
theorem arg_parts {H : Type} {enc : TypeId × Value → H} {W : World} {v : Value} {d : DataW H} {ps : List MemPlace} (hval : Value.okWide Try.prog W .any 0 22 v) (h : DataW.Trod enc Try.prog W 0 (fun _ => true) true 22 v d ps) :
    ∃ l : List Pt, VR (startCx W) (.ro 4 (encP l)) v ∧ ∀ p ∈ l, 0 ≤ p.args ∧ p.args ≤ 255 := by
  obtain ⟨l, h1, _, h2⟩ := open_parts_arg Try.underlying22 (by kernel_rfl) hval h part_cells
  exact ⟨l, h1, fun p hp => ⟨(h2 p hp).1, (h2 p hp).2.1⟩⟩

end Go.Proofs.Yteebkkipeiggcaa
