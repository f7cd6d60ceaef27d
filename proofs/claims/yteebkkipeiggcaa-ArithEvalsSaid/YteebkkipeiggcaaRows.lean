/-
  No cell of these rows narrows 'for every input' (looked for: loops, veiled, ifaces, maps, wideKeys, modest, calm, conditions, laid).
  DERIVED. THE GIVEN ROWS OF THIS SEAT. 12 by the template 'for every input the law returns true; each argument reads behind the call as it read before'; 0 by the template 'total and deterministic' (their statements: YteebkkipeiggcaaTotals.lean).
  GIVEN WITH THE SEED: the statements are not yours to turn. If you find one false, say at which input.
  Laid BY PROGRAM, IN A SANDBOX (cutbox-rows.mjs): the forced cells as the released guide's own fill.sh prints them over the translation 44960f0981802aaa… (all of the seat's roots in one cut). By AI agents, Wed Nov 11 2026. No macro, syntax, notation, axiom, sorry.
-/
import Derived.Test.YteebkkipeiggcaaChecked
import GoSem.Claim
import GoSem.ClaimJoined
import GoSem.ClaimMapViews
import Derived.JoinedTies
import Derived.KernelRfl
namespace Go.Proofs.Yteebkkipeiggcaa
/- THE CELL 'sum', in the pinned program and in every row, IS THE sha256 OF THE DUMP (.gsa) THAT YteebkkipeiggcaaProg.lean LOADS. Nothing in Lean hashes anything: it is a label: what it is worth is what the hold of that sum in a sandbox is worth. -/
noncomputable def Try.pinned : Pinned := { name := "yteebkkipeiggcaa", sum := "44960f0981802aaa41a5ed487c46965f467ea70604252fde2e2291032c9cc5b2", checked := Try.checked }
namespace Rows
def none {H : Type} : Left H := { results := [], args := [] }

/-- 'prolixlaw13.FaultTerms': WHATEVER THE INPUT: true; the input reads as it did. -/
def faultTermsSpec : ChangeSpec := { name := "faultTerms", fn := fun _ => fun
  | [d] => { results := [.lit (.bool true)], args := [d] }
  | _ => none }
def faultTermsRow : OpenClaim := { program := "yteebkkipeiggcaa", sum := "44960f0981802aaa41a5ed487c46965f467ea70604252fde2e2291032c9cc5b2", func := "prolix/prolixlaw13.FaultTerms", spec := "faultTerms", recurses := true, apart := false }
def FaultTermsSaid : Prop := faultTermsRow.holds Try.pinned (OpenSpec.ofChange faultTermsSpec)

/-- ITS FALSE NEIGHBOUR: 'it returns false'. Refute it at one input. -/
def faultTermsWrong : ChangeSpec := { name := "faultTerms", fn := fun _ => fun
  | [d] => { results := [.lit (.bool false)], args := [d] }
  | _ => none }
def FaultTermsWrongFalsely : Prop := faultTermsRow.holds Try.pinned (OpenSpec.ofChange faultTermsWrong)

/-- 'prolixlaw13.FaultIndicators': WHATEVER THE INPUT: true; the input reads as it did. -/
def faultIndicatorsSpec : ChangeSpec := { name := "faultIndicators", fn := fun _ => fun
  | [d1, d2] => { results := [.lit (.bool true)], args := [d1, d2] }
  | _ => none }
def faultIndicatorsRow : OpenClaim := { program := "yteebkkipeiggcaa", sum := "44960f0981802aaa41a5ed487c46965f467ea70604252fde2e2291032c9cc5b2", func := "prolix/prolixlaw13.FaultIndicators", spec := "faultIndicators", recurses := true, apart := false }
def FaultIndicatorsSaid : Prop := faultIndicatorsRow.holds Try.pinned (OpenSpec.ofChange faultIndicatorsSpec)

/-- ITS FALSE NEIGHBOUR: 'it returns false'. Refute it at one input. -/
def faultIndicatorsWrong : ChangeSpec := { name := "faultIndicators", fn := fun _ => fun
  | [d1, d2] => { results := [.lit (.bool false)], args := [d1, d2] }
  | _ => none }
def FaultIndicatorsWrongFalsely : Prop := faultIndicatorsRow.holds Try.pinned (OpenSpec.ofChange faultIndicatorsWrong)

/-- 'prolixlaw03.TermOrder': WHATEVER THE INPUT: true; the input reads as it did. -/
def termOrderSpec : ChangeSpec := { name := "termOrder", fn := fun _ => fun
  | [d1, d2, d3] => { results := [.lit (.bool true)], args := [d1, d2, d3] }
  | _ => none }
def termOrderRow : OpenClaim := { program := "yteebkkipeiggcaa", sum := "44960f0981802aaa41a5ed487c46965f467ea70604252fde2e2291032c9cc5b2", func := "prolix/prolixlaw03.TermOrder", spec := "termOrder", inPlace := ["internal/bytealg.abigen_runtime_cmpstring"], unfollowed := true, recurses := true, apart := false }
def TermOrderSaid : Prop := termOrderRow.holds Try.pinned (OpenSpec.ofChange termOrderSpec)

/-- ITS FALSE NEIGHBOUR: 'it returns false'. Refute it at one input. -/
def termOrderWrong : ChangeSpec := { name := "termOrder", fn := fun _ => fun
  | [d1, d2, d3] => { results := [.lit (.bool false)], args := [d1, d2, d3] }
  | _ => none }
def TermOrderWrongFalsely : Prop := termOrderRow.holds Try.pinned (OpenSpec.ofChange termOrderWrong)

/-- 'prolixlaw03.TermNumbers': WHATEVER THE INPUT: true; the input reads as it did. -/
def termNumbersSpec : ChangeSpec := { name := "termNumbers", fn := fun _ => fun
  | [d] => { results := [.lit (.bool true)], args := [d] }
  | _ => none }
def termNumbersRow : OpenClaim := { program := "yteebkkipeiggcaa", sum := "44960f0981802aaa41a5ed487c46965f467ea70604252fde2e2291032c9cc5b2", func := "prolix/prolixlaw03.TermNumbers", spec := "termNumbers", inPlace := ["internal/bytealg.abigen_runtime_cmpstring"], unfollowed := true, recurses := true, apart := false }
def TermNumbersSaid : Prop := termNumbersRow.holds Try.pinned (OpenSpec.ofChange termNumbersSpec)

/-- ITS FALSE NEIGHBOUR: 'it returns false'. Refute it at one input. -/
def termNumbersWrong : ChangeSpec := { name := "termNumbers", fn := fun _ => fun
  | [d] => { results := [.lit (.bool false)], args := [d] }
  | _ => none }
def TermNumbersWrongFalsely : Prop := termNumbersRow.holds Try.pinned (OpenSpec.ofChange termNumbersWrong)

/-- 'prolixlaw03.TermParts': WHATEVER THE INPUT: true; the input reads as it did. -/
def termPartsSpec : ChangeSpec := { name := "termParts", fn := fun _ => fun
  | [d1, d2] => { results := [.lit (.bool true)], args := [d1, d2] }
  | _ => none }
def termPartsRow : OpenClaim := { program := "yteebkkipeiggcaa", sum := "44960f0981802aaa41a5ed487c46965f467ea70604252fde2e2291032c9cc5b2", func := "prolix/prolixlaw03.TermParts", spec := "termParts", inPlace := ["internal/bytealg.abigen_runtime_cmpstring"], unfollowed := true, recurses := true, apart := false }
def TermPartsSaid : Prop := termPartsRow.holds Try.pinned (OpenSpec.ofChange termPartsSpec)

/-- ITS FALSE NEIGHBOUR: 'it returns false'. Refute it at one input. -/
def termPartsWrong : ChangeSpec := { name := "termParts", fn := fun _ => fun
  | [d1, d2] => { results := [.lit (.bool false)], args := [d1, d2] }
  | _ => none }
def TermPartsWrongFalsely : Prop := termPartsRow.holds Try.pinned (OpenSpec.ofChange termPartsWrong)

/-- 'prolixlaw03.TermOrders': WHATEVER THE INPUT: true; the input reads as it did. -/
def termOrdersSpec : ChangeSpec := { name := "termOrders", fn := fun _ => fun
  | [d1, d2] => { results := [.lit (.bool true)], args := [d1, d2] }
  | _ => none }
def termOrdersRow : OpenClaim := { program := "yteebkkipeiggcaa", sum := "44960f0981802aaa41a5ed487c46965f467ea70604252fde2e2291032c9cc5b2", func := "prolix/prolixlaw03.TermOrders", spec := "termOrders", inPlace := ["internal/bytealg.abigen_runtime_cmpstring"], unfollowed := true, recurses := true, apart := false }
def TermOrdersSaid : Prop := termOrdersRow.holds Try.pinned (OpenSpec.ofChange termOrdersSpec)

/-- ITS FALSE NEIGHBOUR: 'it returns false'. Refute it at one input. -/
def termOrdersWrong : ChangeSpec := { name := "termOrders", fn := fun _ => fun
  | [d1, d2] => { results := [.lit (.bool false)], args := [d1, d2] }
  | _ => none }
def TermOrdersWrongFalsely : Prop := termOrdersRow.holds Try.pinned (OpenSpec.ofChange termOrdersWrong)

/-- 'prolixlaw13.FaultApart': WHATEVER THE INPUT: true; the input reads as it did. -/
def faultApartSpec : ChangeSpec := { name := "faultApart", fn := fun _ => fun
  | [d1, d2] => { results := [.lit (.bool true)], args := [d1, d2] }
  | _ => none }
def faultApartRow : OpenClaim := { program := "yteebkkipeiggcaa", sum := "44960f0981802aaa41a5ed487c46965f467ea70604252fde2e2291032c9cc5b2", func := "prolix/prolixlaw13.FaultApart", spec := "faultApart", inPlace := ["internal/bytealg.abigen_runtime_cmpstring"], unfollowed := true, recurses := true, apart := false }
def FaultApartSaid : Prop := faultApartRow.holds Try.pinned (OpenSpec.ofChange faultApartSpec)

/-- ITS FALSE NEIGHBOUR: 'it returns false'. Refute it at one input. -/
def faultApartWrong : ChangeSpec := { name := "faultApart", fn := fun _ => fun
  | [d1, d2] => { results := [.lit (.bool false)], args := [d1, d2] }
  | _ => none }
def FaultApartWrongFalsely : Prop := faultApartRow.holds Try.pinned (OpenSpec.ofChange faultApartWrong)

/-- 'prolixlaw03.TermLists': WHATEVER THE INPUT: true; the input reads as it did. -/
def termListsSpec : ChangeSpec := { name := "termLists", fn := fun _ => fun
  | [d1, d2] => { results := [.lit (.bool true)], args := [d1, d2] }
  | _ => none }
def termListsRow : OpenClaim := { program := "yteebkkipeiggcaa", sum := "44960f0981802aaa41a5ed487c46965f467ea70604252fde2e2291032c9cc5b2", func := "prolix/prolixlaw03.TermLists", spec := "termLists", inPlace := ["internal/bytealg.abigen_runtime_cmpstring"], unfollowed := true, recurses := true, apart := false }
def TermListsSaid : Prop := termListsRow.holds Try.pinned (OpenSpec.ofChange termListsSpec)

/-- ITS FALSE NEIGHBOUR: 'it returns false'. Refute it at one input. -/
def termListsWrong : ChangeSpec := { name := "termLists", fn := fun _ => fun
  | [d1, d2] => { results := [.lit (.bool false)], args := [d1, d2] }
  | _ => none }
def TermListsWrongFalsely : Prop := termListsRow.holds Try.pinned (OpenSpec.ofChange termListsWrong)

/-- 'prolixlaw12.ArithNests': WHATEVER THE INPUT: true; the input reads as it did. -/
def arithNestsSpec : ChangeSpec := { name := "arithNests", fn := fun _ => fun
  | [d1, d2, d3] => { results := [.lit (.bool true)], args := [d1, d2, d3] }
  | _ => none }
def arithNestsRow : OpenClaim := { program := "yteebkkipeiggcaa", sum := "44960f0981802aaa41a5ed487c46965f467ea70604252fde2e2291032c9cc5b2", func := "prolix/prolixlaw12.ArithNests", spec := "arithNests", unfollowed := true, recurses := true, apart := false }
def ArithNestsSaid : Prop := arithNestsRow.holds Try.pinned (OpenSpec.ofChange arithNestsSpec)

/-- ITS FALSE NEIGHBOUR: 'it returns false'. Refute it at one input. -/
def arithNestsWrong : ChangeSpec := { name := "arithNests", fn := fun _ => fun
  | [d1, d2, d3] => { results := [.lit (.bool false)], args := [d1, d2, d3] }
  | _ => none }
def ArithNestsWrongFalsely : Prop := arithNestsRow.holds Try.pinned (OpenSpec.ofChange arithNestsWrong)

/-- 'prolixlaw12.ArithParts': WHATEVER THE INPUT: true; the input reads as it did. -/
def arithPartsSpec : ChangeSpec := { name := "arithParts", fn := fun _ => fun
  | [d1, d2] => { results := [.lit (.bool true)], args := [d1, d2] }
  | _ => none }
def arithPartsRow : OpenClaim := { program := "yteebkkipeiggcaa", sum := "44960f0981802aaa41a5ed487c46965f467ea70604252fde2e2291032c9cc5b2", func := "prolix/prolixlaw12.ArithParts", spec := "arithParts", unfollowed := true, recurses := true, apart := false }
def ArithPartsSaid : Prop := arithPartsRow.holds Try.pinned (OpenSpec.ofChange arithPartsSpec)

/-- ITS FALSE NEIGHBOUR: 'it returns false'. Refute it at one input. -/
def arithPartsWrong : ChangeSpec := { name := "arithParts", fn := fun _ => fun
  | [d1, d2] => { results := [.lit (.bool false)], args := [d1, d2] }
  | _ => none }
def ArithPartsWrongFalsely : Prop := arithPartsRow.holds Try.pinned (OpenSpec.ofChange arithPartsWrong)

/-- 'prolixlaw12.ArithEvals': WHATEVER THE INPUT: true; the input reads as it did. -/
def arithEvalsSpec : ChangeSpec := { name := "arithEvals", fn := fun _ => fun
  | [d1, d2, d3] => { results := [.lit (.bool true)], args := [d1, d2, d3] }
  | _ => none }
def arithEvalsRow : OpenClaim := { program := "yteebkkipeiggcaa", sum := "44960f0981802aaa41a5ed487c46965f467ea70604252fde2e2291032c9cc5b2", func := "prolix/prolixlaw12.ArithEvals", spec := "arithEvals", unfollowed := true, recurses := true, apart := false }
def ArithEvalsSaid : Prop := arithEvalsRow.holds Try.pinned (OpenSpec.ofChange arithEvalsSpec)

/-- ITS FALSE NEIGHBOUR: 'it returns false'. Refute it at one input. -/
def arithEvalsWrong : ChangeSpec := { name := "arithEvals", fn := fun _ => fun
  | [d1, d2, d3] => { results := [.lit (.bool false)], args := [d1, d2, d3] }
  | _ => none }
def ArithEvalsWrongFalsely : Prop := arithEvalsRow.holds Try.pinned (OpenSpec.ofChange arithEvalsWrong)

/-- 'prolixlaw12.ArithTells': WHATEVER THE INPUT: true; the input reads as it did. -/
def arithTellsSpec : ChangeSpec := { name := "arithTells", fn := fun _ => fun
  | [d1, d2] => { results := [.lit (.bool true)], args := [d1, d2] }
  | _ => none }
def arithTellsRow : OpenClaim := { program := "yteebkkipeiggcaa", sum := "44960f0981802aaa41a5ed487c46965f467ea70604252fde2e2291032c9cc5b2", func := "prolix/prolixlaw12.ArithTells", spec := "arithTells", unfollowed := true, recurses := true, apart := false }
def ArithTellsSaid : Prop := arithTellsRow.holds Try.pinned (OpenSpec.ofChange arithTellsSpec)

/-- ITS FALSE NEIGHBOUR: 'it returns false'. Refute it at one input. -/
def arithTellsWrong : ChangeSpec := { name := "arithTells", fn := fun _ => fun
  | [d1, d2] => { results := [.lit (.bool false)], args := [d1, d2] }
  | _ => none }
def ArithTellsWrongFalsely : Prop := arithTellsRow.holds Try.pinned (OpenSpec.ofChange arithTellsWrong)

/- THE SECOND FORM. 'bulk': how many values and letters a reading holds, each counted each time it is reached (what is shared counts as often as it is met; a slice's spare places count too). A statement '..UptoSaid' is the law's where the arguments, and the package variables that the reading takes, are together of bulk at most 1048576: NARROWER than '..Said'. Prove '..Said' where nothing that the law and all that it calls make is longer than what came in: it says more and counts as full. Else prove '..UptoSaid'. A law counts once. -/
mutual
def uptoBulk {H : Type} : DataW H → Nat
  | .lit (.string bytes) => bytes.length + 1
  | .lit _ => 1
  | .nil => 1
  | .ptr d => uptoBulk d + 1
  | .slice elems spare => uptoBulkAll elems + uptoBulkAll spare + 1
  | .agg parts => uptoBulkAll parts + 1
  | .iface _ d => uptoBulk d + 1
  | .map entries => uptoBulkEntries entries + 1
  | .held _ => 1
def uptoBulkAll {H : Type} : List (DataW H) → Nat
  | [] => 0
  | d :: r => uptoBulk d + uptoBulkAll r
def uptoBulkEntries {H : Type} : List (Lit × DataW H) → Nat
  | [] => 0
  | x :: r => uptoBulkEntry x + uptoBulkEntries r
def uptoBulkEntry {H : Type} : Lit × DataW H → Nat
  | (.string bytes, d) => bytes.length + uptoBulk d + 1
  | (_, d) => uptoBulk d + 1
 end
def uptoSmall : (H : Type) → List (DataW H) → Bool := fun _ ds => decide (uptoBulkAll ds ≤ 1048576)
def OpenSpec.upto (s : _root_.Go.ChangeSpec) : _root_.Go.OpenSpec := { _root_.Go.OpenSpec.ofChange s with cond := some uptoSmall }

/-- 'prolixlaw13.FaultTerms', WHERE WHAT IT READS IS OF BULK AT MOST 1048576: true; the input reads as it did. -/
def faultTermsUptoRow : OpenClaim := { program := "yteebkkipeiggcaa", sum := "44960f0981802aaa41a5ed487c46965f467ea70604252fde2e2291032c9cc5b2", func := "prolix/prolixlaw13.FaultTerms", spec := "faultTerms", recurses := true, apart := false, narrowed := true }
def FaultTermsUptoSaid : Prop := faultTermsUptoRow.holds Try.pinned (OpenSpec.upto faultTermsSpec)

/-- 'prolixlaw13.FaultIndicators', WHERE WHAT IT READS IS OF BULK AT MOST 1048576: true; the input reads as it did. -/
def faultIndicatorsUptoRow : OpenClaim := { program := "yteebkkipeiggcaa", sum := "44960f0981802aaa41a5ed487c46965f467ea70604252fde2e2291032c9cc5b2", func := "prolix/prolixlaw13.FaultIndicators", spec := "faultIndicators", recurses := true, apart := false, narrowed := true }
def FaultIndicatorsUptoSaid : Prop := faultIndicatorsUptoRow.holds Try.pinned (OpenSpec.upto faultIndicatorsSpec)

/-- 'prolixlaw03.TermOrder', WHERE WHAT IT READS IS OF BULK AT MOST 1048576: true; the input reads as it did. -/
def termOrderUptoRow : OpenClaim := { program := "yteebkkipeiggcaa", sum := "44960f0981802aaa41a5ed487c46965f467ea70604252fde2e2291032c9cc5b2", func := "prolix/prolixlaw03.TermOrder", spec := "termOrder", inPlace := ["internal/bytealg.abigen_runtime_cmpstring"], unfollowed := true, recurses := true, apart := false, narrowed := true }
def TermOrderUptoSaid : Prop := termOrderUptoRow.holds Try.pinned (OpenSpec.upto termOrderSpec)

/-- 'prolixlaw03.TermNumbers', WHERE WHAT IT READS IS OF BULK AT MOST 1048576: true; the input reads as it did. -/
def termNumbersUptoRow : OpenClaim := { program := "yteebkkipeiggcaa", sum := "44960f0981802aaa41a5ed487c46965f467ea70604252fde2e2291032c9cc5b2", func := "prolix/prolixlaw03.TermNumbers", spec := "termNumbers", inPlace := ["internal/bytealg.abigen_runtime_cmpstring"], unfollowed := true, recurses := true, apart := false, narrowed := true }
def TermNumbersUptoSaid : Prop := termNumbersUptoRow.holds Try.pinned (OpenSpec.upto termNumbersSpec)

/-- 'prolixlaw03.TermParts', WHERE WHAT IT READS IS OF BULK AT MOST 1048576: true; the input reads as it did. -/
def termPartsUptoRow : OpenClaim := { program := "yteebkkipeiggcaa", sum := "44960f0981802aaa41a5ed487c46965f467ea70604252fde2e2291032c9cc5b2", func := "prolix/prolixlaw03.TermParts", spec := "termParts", inPlace := ["internal/bytealg.abigen_runtime_cmpstring"], unfollowed := true, recurses := true, apart := false, narrowed := true }
def TermPartsUptoSaid : Prop := termPartsUptoRow.holds Try.pinned (OpenSpec.upto termPartsSpec)

/-- 'prolixlaw03.TermOrders', WHERE WHAT IT READS IS OF BULK AT MOST 1048576: true; the input reads as it did. -/
def termOrdersUptoRow : OpenClaim := { program := "yteebkkipeiggcaa", sum := "44960f0981802aaa41a5ed487c46965f467ea70604252fde2e2291032c9cc5b2", func := "prolix/prolixlaw03.TermOrders", spec := "termOrders", inPlace := ["internal/bytealg.abigen_runtime_cmpstring"], unfollowed := true, recurses := true, apart := false, narrowed := true }
def TermOrdersUptoSaid : Prop := termOrdersUptoRow.holds Try.pinned (OpenSpec.upto termOrdersSpec)

/-- 'prolixlaw13.FaultApart', WHERE WHAT IT READS IS OF BULK AT MOST 1048576: true; the input reads as it did. -/
def faultApartUptoRow : OpenClaim := { program := "yteebkkipeiggcaa", sum := "44960f0981802aaa41a5ed487c46965f467ea70604252fde2e2291032c9cc5b2", func := "prolix/prolixlaw13.FaultApart", spec := "faultApart", inPlace := ["internal/bytealg.abigen_runtime_cmpstring"], unfollowed := true, recurses := true, apart := false, narrowed := true }
def FaultApartUptoSaid : Prop := faultApartUptoRow.holds Try.pinned (OpenSpec.upto faultApartSpec)

/-- 'prolixlaw03.TermLists', WHERE WHAT IT READS IS OF BULK AT MOST 1048576: true; the input reads as it did. -/
def termListsUptoRow : OpenClaim := { program := "yteebkkipeiggcaa", sum := "44960f0981802aaa41a5ed487c46965f467ea70604252fde2e2291032c9cc5b2", func := "prolix/prolixlaw03.TermLists", spec := "termLists", inPlace := ["internal/bytealg.abigen_runtime_cmpstring"], unfollowed := true, recurses := true, apart := false, narrowed := true }
def TermListsUptoSaid : Prop := termListsUptoRow.holds Try.pinned (OpenSpec.upto termListsSpec)

/-- 'prolixlaw12.ArithNests', WHERE WHAT IT READS IS OF BULK AT MOST 1048576: true; the input reads as it did. -/
def arithNestsUptoRow : OpenClaim := { program := "yteebkkipeiggcaa", sum := "44960f0981802aaa41a5ed487c46965f467ea70604252fde2e2291032c9cc5b2", func := "prolix/prolixlaw12.ArithNests", spec := "arithNests", unfollowed := true, recurses := true, apart := false, narrowed := true }
def ArithNestsUptoSaid : Prop := arithNestsUptoRow.holds Try.pinned (OpenSpec.upto arithNestsSpec)

/-- 'prolixlaw12.ArithParts', WHERE WHAT IT READS IS OF BULK AT MOST 1048576: true; the input reads as it did. -/
def arithPartsUptoRow : OpenClaim := { program := "yteebkkipeiggcaa", sum := "44960f0981802aaa41a5ed487c46965f467ea70604252fde2e2291032c9cc5b2", func := "prolix/prolixlaw12.ArithParts", spec := "arithParts", unfollowed := true, recurses := true, apart := false, narrowed := true }
def ArithPartsUptoSaid : Prop := arithPartsUptoRow.holds Try.pinned (OpenSpec.upto arithPartsSpec)

/-- 'prolixlaw12.ArithEvals', WHERE WHAT IT READS IS OF BULK AT MOST 1048576: true; the input reads as it did. -/
def arithEvalsUptoRow : OpenClaim := { program := "yteebkkipeiggcaa", sum := "44960f0981802aaa41a5ed487c46965f467ea70604252fde2e2291032c9cc5b2", func := "prolix/prolixlaw12.ArithEvals", spec := "arithEvals", unfollowed := true, recurses := true, apart := false, narrowed := true }
def ArithEvalsUptoSaid : Prop := arithEvalsUptoRow.holds Try.pinned (OpenSpec.upto arithEvalsSpec)

/-- 'prolixlaw12.ArithTells', WHERE WHAT IT READS IS OF BULK AT MOST 1048576: true; the input reads as it did. -/
def arithTellsUptoRow : OpenClaim := { program := "yteebkkipeiggcaa", sum := "44960f0981802aaa41a5ed487c46965f467ea70604252fde2e2291032c9cc5b2", func := "prolix/prolixlaw12.ArithTells", spec := "arithTells", unfollowed := true, recurses := true, apart := false, narrowed := true }
def ArithTellsUptoSaid : Prop := arithTellsUptoRow.holds Try.pinned (OpenSpec.upto arithTellsSpec)

end Rows
end Go.Proofs.Yteebkkipeiggcaa
