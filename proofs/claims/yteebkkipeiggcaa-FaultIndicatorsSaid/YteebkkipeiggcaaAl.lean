import Derived.Test.YteebkkipeiggcaaSa
set_option linter.unusedVariables false
set_option linter.unusedSimpArgs false
namespace Go.Proofs.Yteebkkipeiggcaa
open Go Go.Vm

set_option maxRecDepth 20000
set_option maxHeartbeats 4000000

theorem alive_ok : ACalls Try.prog 15 [] [] (fun r _ => r = .ret (.bool true)) := by
  refine calls_run 100 fn15 ?_
  simp [↓run.eq_def, ↓aop.eq_def, ↓After.eq_def, ↓Resume.eq_def, ↓EndsV.eq_def, ↓aResults.eq_def, ↓aBuiltin.eq_def, ↓aLen.eq_def, ↓aLoad.eq_def, ↓aPart.eq_def, ↓aStore.eq_def, ↓aFieldAddr.eq_def, ↓aField.eq_def, ↓aOff.eq_def, ↓aAlloc.eq_def, ↓aBox.eq_def, ↓aIndex.eq_def, ↓aIndexAddr.eq_def, ↓aBuild.eq_def, ↓aBuildSlice.eq_def, ↓aAppend.eq_def, ↓aSlice.eq_def, ↓aBound.eq_def, ↓aUn.eq_def, ↓aConvert.eq_def, ↓aExtract.eq_def, ↓aMakeIface.eq_def, ↓aAssert.eq_def, ↓aMaxOp.eq_def, ↓aMax.eq_def, ↓aMakeMap.eq_def, ↓aLookup.eq_def, ↓aMapUpd.eq_def, ↓findA.eq_def, ↓aBin.eq_def, ↓aIntOp.eq_def, ↓aStrOp.eq_def, ↓aNilEq.eq_def, ↓qrun.eq_def, ↓qop.eq_def, ↓QAfter.eq_def, ↓callOf.eq_def, yieldA, quietOp, newOp, ↓Tr.get.eq_def, ↓Tr.set.eq_def, ↓pickT.eq_def, ↓ofL.eq_def, ↓mkT.eq_def, ↓toL_set, ↓toL_get, toL_map, Tr.map, Try.f15, ty32, ty3, ty4, ty9, ty29, ty27, ty2, fn18, tmcells]
  refine ACalls.argsWk [.int .i64 13, .str ⟨#[105, 110, 116, 101, 103, 101, 114]⟩, .agg (atomT ⟨#[97]⟩).enc] ?_ ?_
  · exact .cons (.refl _) (.cons (.refl _) (.cons (by simp [atomT, Tm.enc]; exact .agg (.cons (.refl _) (.cons (.refl _) (.cons (.refl _) (.cons (.nil 4) .nil))))) .nil))
  refine ACalls.ret (clo_cons .int (clo_cons .str (clo_cons (enc_closed _) clo_nil))) (enc_closed _) (formal_ok 13 _ (atomT ⟨#[97]⟩) (by simp [atomT, Tm.Ok, Oks])) ?_
  simp [↓run.eq_def, ↓aop.eq_def, ↓After.eq_def, ↓Resume.eq_def, ↓EndsV.eq_def, ↓aResults.eq_def, ↓aBuiltin.eq_def, ↓aLen.eq_def, ↓aLoad.eq_def, ↓aPart.eq_def, ↓aStore.eq_def, ↓aFieldAddr.eq_def, ↓aField.eq_def, ↓aOff.eq_def, ↓aAlloc.eq_def, ↓aBox.eq_def, ↓aIndex.eq_def, ↓aIndexAddr.eq_def, ↓aBuild.eq_def, ↓aBuildSlice.eq_def, ↓aAppend.eq_def, ↓aSlice.eq_def, ↓aBound.eq_def, ↓aUn.eq_def, ↓aConvert.eq_def, ↓aExtract.eq_def, ↓aMakeIface.eq_def, ↓aAssert.eq_def, ↓aMaxOp.eq_def, ↓aMax.eq_def, ↓aMakeMap.eq_def, ↓aLookup.eq_def, ↓aMapUpd.eq_def, ↓findA.eq_def, ↓aBin.eq_def, ↓aIntOp.eq_def, ↓aStrOp.eq_def, ↓aNilEq.eq_def, ↓qrun.eq_def, ↓qop.eq_def, ↓QAfter.eq_def, ↓callOf.eq_def, yieldA, quietOp, newOp, ↓Tr.get.eq_def, ↓Tr.set.eq_def, ↓pickT.eq_def, ↓ofL.eq_def, ↓mkT.eq_def, ↓toL_set, ↓toL_get, toL_map, Tr.map, formalT, compT, atomT, Tm.enc, ty32, ty3, ty4, ty9, ty29, ty27, ty2, fn18, tmcells]
  refine ACalls.argsWk [.int .i64 12, .str ⟨#[]⟩, .agg (atomT ⟨#[97]⟩).enc] ?_ ?_
  · exact .cons (.refl _) (.cons (.refl _) (.cons (by simp [atomT, Tm.enc]; exact .agg (.cons (.refl _) (.cons (.refl _) (.cons (.refl _) (.cons (.nil 4) .nil))))) .nil))
  refine ACalls.ret (clo_cons .int (clo_cons .str (clo_cons (enc_closed _) clo_nil))) (enc_closed _) (formal_ok 12 _ (atomT ⟨#[97]⟩) (by simp [atomT, Tm.Ok, Oks])) ?_
  simp [↓run.eq_def, ↓aop.eq_def, ↓After.eq_def, ↓Resume.eq_def, ↓EndsV.eq_def, ↓aResults.eq_def, ↓aBuiltin.eq_def, ↓aLen.eq_def, ↓aLoad.eq_def, ↓aPart.eq_def, ↓aStore.eq_def, ↓aFieldAddr.eq_def, ↓aField.eq_def, ↓aOff.eq_def, ↓aAlloc.eq_def, ↓aBox.eq_def, ↓aIndex.eq_def, ↓aIndexAddr.eq_def, ↓aBuild.eq_def, ↓aBuildSlice.eq_def, ↓aAppend.eq_def, ↓aSlice.eq_def, ↓aBound.eq_def, ↓aUn.eq_def, ↓aConvert.eq_def, ↓aExtract.eq_def, ↓aMakeIface.eq_def, ↓aAssert.eq_def, ↓aMaxOp.eq_def, ↓aMax.eq_def, ↓aMakeMap.eq_def, ↓aLookup.eq_def, ↓aMapUpd.eq_def, ↓findA.eq_def, ↓aBin.eq_def, ↓aIntOp.eq_def, ↓aStrOp.eq_def, ↓aNilEq.eq_def, ↓qrun.eq_def, ↓qop.eq_def, ↓QAfter.eq_def, ↓callOf.eq_def, yieldA, quietOp, newOp, ↓Tr.get.eq_def, ↓Tr.set.eq_def, ↓pickT.eq_def, ↓ofL.eq_def, ↓mkT.eq_def, ↓toL_set, ↓toL_get, toL_map, Tr.map, formalT, compT, atomT, Tm.enc, ty32, ty3, ty4, ty9, ty29, ty27, ty2, fn18, tmcells]
  trace_state

end Go.Proofs.Yteebkkipeiggcaa
