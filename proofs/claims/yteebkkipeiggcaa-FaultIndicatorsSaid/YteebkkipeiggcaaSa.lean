import Derived.Test.YteebkkipeiggcaaFa
set_option linter.unusedVariables false
set_option linter.unusedSimpArgs false
namespace Go.Proofs.Yteebkkipeiggcaa
open Go Go.Vm

set_option maxRecDepth 20000
set_option maxHeartbeats 4000000

mutual
def Tm.same : Tm → Tm → Bool
  | .mk k n s a, .mk k' n' s' a' => decide (k = k') && decide (n = n') && decide (s = s') && decide (a.length = a'.length) && sames a a'
def sames : List Tm → List Tm → Bool
  | t :: l, u :: m => t.same u && sames l m
  | _, _ => true
end

mutual
theorem Tm.same_refl : ∀ t : Tm, t.same t = true
  | .mk k n s a => by simp [Tm.same, sames_refl a]
theorem sames_refl : ∀ l : List Tm, sames l l = true
  | [] => by simp [sames]
  | t :: l => by simp [sames, Tm.same_refl t, sames_refl l]
end

mutual
theorem Tm.same_eq : ∀ t u : Tm, t.same u = true → t = u
  | .mk k n s a, .mk k' n' s' a', h => by
    simp [Tm.same] at h
    obtain ⟨⟨⟨⟨rfl, rfl⟩, rfl⟩, h4⟩, h5⟩ := h
    rw [sames_eq a a' h4 h5]
theorem sames_eq : ∀ l m : List Tm, l.length = m.length → sames l m = true → l = m
  | [], [], _, _ => rfl
  | [], u :: m, h, _ => by simp at h
  | t :: l, [], h, _ => by simp at h
  | t :: l, u :: m, h, hs => by
    simp [sames] at hs
    rw [Tm.same_eq t u hs.1, sames_eq l m (by simpa using h) hs.2]
end

theorem sames_append : ∀ (a b a' b' : List Tm), a.length = a'.length → sames (a ++ b) (a' ++ b') = (sames a a' && sames b b')
  | [], b, [], b', _ => by simp [sames]
  | [], b, u :: a', b', h => by simp at h
  | t :: a, b, [], b', h => by simp at h
  | t :: a, b, u :: a', b', h => by simp [sames, sames_append a b a' b' (by simpa using h), Bool.and_assoc]

theorem same_ok : ∀ (m : Nat) (t u : Tm), SizeOf.sizeOf t < m → t.Ok → u.Ok → ACalls Try.prog 20 [.agg t.enc, .agg u.enc] [] (fun r _ => r = .ret (.bool (t.same u))) := by
  intro m
  induction m with
  | zero => intro t u h; omega
  | succ m ih =>
  intro ⟨k, n, s, args⟩ ⟨k', n', s', args'⟩ hm hok hok'
  have hmem : ∀ u ∈ args, ∀ v ∈ args', ACalls Try.prog 20 [.agg u.enc, .agg v.enc] [] (fun r _ => r = .ret (.bool (u.same v))) := fun u hu v hv => ih u v (by
    have := List.sizeOf_lt_of_mem hu
    simp at hm; omega) (Oks_mem hok.2 hu) (Oks_mem hok'.2 hv)
  have hlen : args.length ≤ 1000000 := hok.1
  clear ih hm hok hok'
  refine calls_run 100 fn20 ?_
  by_cases h1 : k = k'
  · by_cases h2 : n = n'
    · by_cases h3 : s = s'
      · by_cases h4 : args.length = args'.length
        · subst h1; subst h2; subst h3
          simp [↓run.eq_def, ↓aop.eq_def, ↓After.eq_def, ↓Resume.eq_def, ↓EndsV.eq_def, ↓aResults.eq_def, ↓aBuiltin.eq_def, ↓aLen.eq_def, ↓aLoad.eq_def, ↓aPart.eq_def, ↓aStore.eq_def, ↓aFieldAddr.eq_def, ↓aField.eq_def, ↓aOff.eq_def, ↓aAlloc.eq_def, ↓aBox.eq_def, ↓aIndex.eq_def, ↓aIndexAddr.eq_def, ↓aBuild.eq_def, ↓aBuildSlice.eq_def, ↓aAppend.eq_def, ↓aSlice.eq_def, ↓aBound.eq_def, ↓aUn.eq_def, ↓aConvert.eq_def, ↓aExtract.eq_def, ↓aMakeIface.eq_def, ↓aAssert.eq_def, ↓aMaxOp.eq_def, ↓aMax.eq_def, ↓aMakeMap.eq_def, ↓aLookup.eq_def, ↓aMapUpd.eq_def, ↓findA.eq_def, ↓aBin.eq_def, ↓aIntOp.eq_def, ↓aStrOp.eq_def, ↓aNilEq.eq_def, ↓qrun.eq_def, ↓qop.eq_def, ↓QAfter.eq_def, ↓callOf.eq_def, yieldA, quietOp, newOp, ↓Tr.get.eq_def, ↓Tr.set.eq_def, ↓pickT.eq_def, ↓ofL.eq_def, ↓mkT.eq_def, ↓toL_set, ↓toL_get, toL_map, Tr.map, Try.f20, ty32, ty3, ty4, ty9, ty29, ty27, ty2, fn20, tmcells, Tm.enc, Tm.same, h4]
          refine AStk.live [2, 3, 4, 36, 37] ?_
          simp
          refine AStk.ind (fun d a h => ∃ ds es ds' es', args = ds ++ es ∧ args' = ds' ++ es' ∧ ds.length = ds'.length ∧ sames ds ds' = true ∧ d = es.length ∧ a = ⟨[.any, .any, .ptr 0 0, .ptr 1 0, .bool false, .any, .any, .any, .any, .any, .any, .any, .any, .any, .any, .any, .any, .any, .any, .any, .any, .any, .any, .any, .any, .any, .any, .any, .any, .any, .any, .any, .any, .any, .any, .any, .int .i64 ↑args'.length, .int .i64 ↑ds.length, .any, .any, .any, .any, .any, .any, .any, .any, .any, .any, .any, .any, .any, .any, .any], []⟩ ∧ h = [.var [.int .i64 k, .int .i64 n, .str s, .ro 4 (encs args)], .var [.int .i64 k, .int .i64 n, .str s, .ro 4 (encs args')]]) (n := args.length) ?_ ?_
          · exact ⟨[], args, [], args', rfl, rfl, rfl, by simp [sames], rfl, by simp, rfl⟩
          rintro d a h ⟨ds, es, ds', es', e1, e2, e3, e4, rfl, rfl, rfl⟩ IH
          refine stk_run 100 ?_
          have e5 : es.length = es'.length := by rw [e1, e2] at h4; simp at h4; omega
          cases es with
          | nil =>
            have e6 : es' = [] := List.length_eq_zero_iff.1 e5.symm
            subst e6
            simp at e1 e2
            subst e1; subst e2
            simp [↓run.eq_def, ↓aop.eq_def, ↓After.eq_def, ↓Resume.eq_def, ↓EndsV.eq_def, ↓aResults.eq_def, ↓aBuiltin.eq_def, ↓aLen.eq_def, ↓aLoad.eq_def, ↓aPart.eq_def, ↓aStore.eq_def, ↓aFieldAddr.eq_def, ↓aField.eq_def, ↓aOff.eq_def, ↓aAlloc.eq_def, ↓aBox.eq_def, ↓aIndex.eq_def, ↓aIndexAddr.eq_def, ↓aBuild.eq_def, ↓aBuildSlice.eq_def, ↓aAppend.eq_def, ↓aSlice.eq_def, ↓aBound.eq_def, ↓aUn.eq_def, ↓aConvert.eq_def, ↓aExtract.eq_def, ↓aMakeIface.eq_def, ↓aAssert.eq_def, ↓aMaxOp.eq_def, ↓aMax.eq_def, ↓aMakeMap.eq_def, ↓aLookup.eq_def, ↓aMapUpd.eq_def, ↓findA.eq_def, ↓aBin.eq_def, ↓aIntOp.eq_def, ↓aStrOp.eq_def, ↓aNilEq.eq_def, ↓qrun.eq_def, ↓qop.eq_def, ↓QAfter.eq_def, ↓callOf.eq_def, yieldA, quietOp, newOp, ↓Tr.get.eq_def, ↓Tr.set.eq_def, ↓pickT.eq_def, ↓ofL.eq_def, ↓mkT.eq_def, ↓toL_set, ↓toL_get, toL_map, Tr.map, ty32, ty3, ty4, ty9, ty29, ty27, ty2, fn20, tmcells, e3, e4]
          | cons t es =>
            obtain ⟨u, es', rfl⟩ : ∃ u m, es' = u :: m := by cases es' with | nil => simp at e5 | cons u m => exact ⟨u, m, rfl⟩
            have hlt : (ds.length : Int) < args'.length := by rw [e2]; simp; omega
            have g1 : (encs args)[ds.length]? = some t.enc := by rw [e1]; simp
            have g2 : (encs args')[ds.length]? = some u.enc := by rw [e2, e3]; simp
            simp [↓run.eq_def, ↓aop.eq_def, ↓After.eq_def, ↓Resume.eq_def, ↓EndsV.eq_def, ↓aResults.eq_def, ↓aBuiltin.eq_def, ↓aLen.eq_def, ↓aLoad.eq_def, ↓aPart.eq_def, ↓aStore.eq_def, ↓aFieldAddr.eq_def, ↓aField.eq_def, ↓aOff.eq_def, ↓aAlloc.eq_def, ↓aBox.eq_def, ↓aIndex.eq_def, ↓aIndexAddr.eq_def, ↓aBuild.eq_def, ↓aBuildSlice.eq_def, ↓aAppend.eq_def, ↓aSlice.eq_def, ↓aBound.eq_def, ↓aUn.eq_def, ↓aConvert.eq_def, ↓aExtract.eq_def, ↓aMakeIface.eq_def, ↓aAssert.eq_def, ↓aMaxOp.eq_def, ↓aMax.eq_def, ↓aMakeMap.eq_def, ↓aLookup.eq_def, ↓aMapUpd.eq_def, ↓findA.eq_def, ↓aBin.eq_def, ↓aIntOp.eq_def, ↓aStrOp.eq_def, ↓aNilEq.eq_def, ↓qrun.eq_def, ↓qop.eq_def, ↓QAfter.eq_def, ↓callOf.eq_def, yieldA, quietOp, newOp, ↓Tr.get.eq_def, ↓Tr.set.eq_def, ↓pickT.eq_def, ↓ofL.eq_def, ↓mkT.eq_def, ↓toL_set, ↓toL_get, toL_map, Tr.map, ty32, ty3, ty4, ty9, ty29, ty27, ty2, fn20, tmcells, hlt, h4]
            refine stk_draw mixed (tabOf_ok _) (fnOf_ok _) 12 (by kernel_rfl) ?_
            simp [↓run.eq_def, ↓aop.eq_def, ↓After.eq_def, ↓Resume.eq_def, ↓EndsV.eq_def, ↓aResults.eq_def, ↓aBuiltin.eq_def, ↓aLen.eq_def, ↓aLoad.eq_def, ↓aPart.eq_def, ↓aStore.eq_def, ↓aFieldAddr.eq_def, ↓aField.eq_def, ↓aOff.eq_def, ↓aAlloc.eq_def, ↓aBox.eq_def, ↓aIndex.eq_def, ↓aIndexAddr.eq_def, ↓aBuild.eq_def, ↓aBuildSlice.eq_def, ↓aAppend.eq_def, ↓aSlice.eq_def, ↓aBound.eq_def, ↓aUn.eq_def, ↓aConvert.eq_def, ↓aExtract.eq_def, ↓aMakeIface.eq_def, ↓aAssert.eq_def, ↓aMaxOp.eq_def, ↓aMax.eq_def, ↓aMakeMap.eq_def, ↓aLookup.eq_def, ↓aMapUpd.eq_def, ↓findA.eq_def, ↓aBin.eq_def, ↓aIntOp.eq_def, ↓aStrOp.eq_def, ↓aNilEq.eq_def, ↓qrun.eq_def, ↓qop.eq_def, ↓QAfter.eq_def, ↓callOf.eq_def, yieldA, quietOp, newOp, ↓Tr.get.eq_def, ↓Tr.set.eq_def, ↓pickT.eq_def, ↓ofL.eq_def, ↓mkT.eq_def, ↓toL_set, ↓toL_get, toL_map, Tr.map, ty32, ty3, ty4, ty9, ty29, ty27, ty2, fn20, tmcells, hlt, h4, g1, g2]
            refine QCall.intro (.bool (t.same u)) (clo_cons (enc_closed t) (clo_cons (enc_closed u) clo_nil)) .bool (hmem t (by simp [e1]) u (by simp [e2])) ?_
            cases hs : t.same u with
            | false =>
              simp [↓run.eq_def, ↓aop.eq_def, ↓After.eq_def, ↓Resume.eq_def, ↓EndsV.eq_def, ↓aResults.eq_def, ↓aBuiltin.eq_def, ↓aLen.eq_def, ↓aLoad.eq_def, ↓aPart.eq_def, ↓aStore.eq_def, ↓aFieldAddr.eq_def, ↓aField.eq_def, ↓aOff.eq_def, ↓aAlloc.eq_def, ↓aBox.eq_def, ↓aIndex.eq_def, ↓aIndexAddr.eq_def, ↓aBuild.eq_def, ↓aBuildSlice.eq_def, ↓aAppend.eq_def, ↓aSlice.eq_def, ↓aBound.eq_def, ↓aUn.eq_def, ↓aConvert.eq_def, ↓aExtract.eq_def, ↓aMakeIface.eq_def, ↓aAssert.eq_def, ↓aMaxOp.eq_def, ↓aMax.eq_def, ↓aMakeMap.eq_def, ↓aLookup.eq_def, ↓aMapUpd.eq_def, ↓findA.eq_def, ↓aBin.eq_def, ↓aIntOp.eq_def, ↓aStrOp.eq_def, ↓aNilEq.eq_def, ↓qrun.eq_def, ↓qop.eq_def, ↓QAfter.eq_def, ↓callOf.eq_def, yieldA, quietOp, newOp, ↓Tr.get.eq_def, ↓Tr.set.eq_def, ↓pickT.eq_def, ↓ofL.eq_def, ↓mkT.eq_def, ↓toL_set, ↓toL_get, toL_map, Tr.map, ty32, ty3, ty4, ty9, ty29, ty27, ty2, fn20, tmcells]
              refine stk_run 100 ?_
              simp [↓run.eq_def, ↓aop.eq_def, ↓After.eq_def, ↓Resume.eq_def, ↓EndsV.eq_def, ↓aResults.eq_def, ↓aBuiltin.eq_def, ↓aLen.eq_def, ↓aLoad.eq_def, ↓aPart.eq_def, ↓aStore.eq_def, ↓aFieldAddr.eq_def, ↓aField.eq_def, ↓aOff.eq_def, ↓aAlloc.eq_def, ↓aBox.eq_def, ↓aIndex.eq_def, ↓aIndexAddr.eq_def, ↓aBuild.eq_def, ↓aBuildSlice.eq_def, ↓aAppend.eq_def, ↓aSlice.eq_def, ↓aBound.eq_def, ↓aUn.eq_def, ↓aConvert.eq_def, ↓aExtract.eq_def, ↓aMakeIface.eq_def, ↓aAssert.eq_def, ↓aMaxOp.eq_def, ↓aMax.eq_def, ↓aMakeMap.eq_def, ↓aLookup.eq_def, ↓aMapUpd.eq_def, ↓findA.eq_def, ↓aBin.eq_def, ↓aIntOp.eq_def, ↓aStrOp.eq_def, ↓aNilEq.eq_def, ↓qrun.eq_def, ↓qop.eq_def, ↓QAfter.eq_def, ↓callOf.eq_def, yieldA, quietOp, newOp, ↓Tr.get.eq_def, ↓Tr.set.eq_def, ↓pickT.eq_def, ↓ofL.eq_def, ↓mkT.eq_def, ↓toL_set, ↓toL_get, toL_map, Tr.map, ty32, ty3, ty4, ty9, ty29, ty27, ty2, fn20, tmcells, e1, e2, sames_append _ _ _ _ e3, e4, sames, hs]
            | true =>
              simp [↓run.eq_def, ↓aop.eq_def, ↓After.eq_def, ↓Resume.eq_def, ↓EndsV.eq_def, ↓aResults.eq_def, ↓aBuiltin.eq_def, ↓aLen.eq_def, ↓aLoad.eq_def, ↓aPart.eq_def, ↓aStore.eq_def, ↓aFieldAddr.eq_def, ↓aField.eq_def, ↓aOff.eq_def, ↓aAlloc.eq_def, ↓aBox.eq_def, ↓aIndex.eq_def, ↓aIndexAddr.eq_def, ↓aBuild.eq_def, ↓aBuildSlice.eq_def, ↓aAppend.eq_def, ↓aSlice.eq_def, ↓aBound.eq_def, ↓aUn.eq_def, ↓aConvert.eq_def, ↓aExtract.eq_def, ↓aMakeIface.eq_def, ↓aAssert.eq_def, ↓aMaxOp.eq_def, ↓aMax.eq_def, ↓aMakeMap.eq_def, ↓aLookup.eq_def, ↓aMapUpd.eq_def, ↓findA.eq_def, ↓aBin.eq_def, ↓aIntOp.eq_def, ↓aStrOp.eq_def, ↓aNilEq.eq_def, ↓qrun.eq_def, ↓qop.eq_def, ↓QAfter.eq_def, ↓callOf.eq_def, yieldA, quietOp, newOp, ↓Tr.get.eq_def, ↓Tr.set.eq_def, ↓pickT.eq_def, ↓ofL.eq_def, ↓mkT.eq_def, ↓toL_set, ↓toL_get, toL_map, Tr.map, ty32, ty3, ty4, ty9, ty29, ty27, ty2, fn20, tmcells]
              refine stk_run 100 ?_
              simp [↓run.eq_def, ↓aop.eq_def, ↓After.eq_def, ↓Resume.eq_def, ↓EndsV.eq_def, ↓aResults.eq_def, ↓aBuiltin.eq_def, ↓aLen.eq_def, ↓aLoad.eq_def, ↓aPart.eq_def, ↓aStore.eq_def, ↓aFieldAddr.eq_def, ↓aField.eq_def, ↓aOff.eq_def, ↓aAlloc.eq_def, ↓aBox.eq_def, ↓aIndex.eq_def, ↓aIndexAddr.eq_def, ↓aBuild.eq_def, ↓aBuildSlice.eq_def, ↓aAppend.eq_def, ↓aSlice.eq_def, ↓aBound.eq_def, ↓aUn.eq_def, ↓aConvert.eq_def, ↓aExtract.eq_def, ↓aMakeIface.eq_def, ↓aAssert.eq_def, ↓aMaxOp.eq_def, ↓aMax.eq_def, ↓aMakeMap.eq_def, ↓aLookup.eq_def, ↓aMapUpd.eq_def, ↓findA.eq_def, ↓aBin.eq_def, ↓aIntOp.eq_def, ↓aStrOp.eq_def, ↓aNilEq.eq_def, ↓qrun.eq_def, ↓qop.eq_def, ↓QAfter.eq_def, ↓callOf.eq_def, yieldA, quietOp, newOp, ↓Tr.get.eq_def, ↓Tr.set.eq_def, ↓pickT.eq_def, ↓ofL.eq_def, ↓mkT.eq_def, ↓toL_set, ↓toL_get, toL_map, Tr.map, ty32, ty3, ty4, ty9, ty29, ty27, ty2, fn20, tmcells]
              rw [wrap64 (by omega) (by omega)]
              refine AStk.live [2, 3, 4, 36, 37] ?_
              simp
              exact IH es.length _ _ (by simp) ⟨ds ++ [t], es, ds' ++ [u], es', by simp [e1], by simp [e2], by simp [e3], by simp [sames_append _ _ _ _ e3, e4, sames, hs], rfl, by simp, rfl⟩
        · simp [↓run.eq_def, ↓aop.eq_def, ↓After.eq_def, ↓Resume.eq_def, ↓EndsV.eq_def, ↓aResults.eq_def, ↓aBuiltin.eq_def, ↓aLen.eq_def, ↓aLoad.eq_def, ↓aPart.eq_def, ↓aStore.eq_def, ↓aFieldAddr.eq_def, ↓aField.eq_def, ↓aOff.eq_def, ↓aAlloc.eq_def, ↓aBox.eq_def, ↓aIndex.eq_def, ↓aIndexAddr.eq_def, ↓aBuild.eq_def, ↓aBuildSlice.eq_def, ↓aAppend.eq_def, ↓aSlice.eq_def, ↓aBound.eq_def, ↓aUn.eq_def, ↓aConvert.eq_def, ↓aExtract.eq_def, ↓aMakeIface.eq_def, ↓aAssert.eq_def, ↓aMaxOp.eq_def, ↓aMax.eq_def, ↓aMakeMap.eq_def, ↓aLookup.eq_def, ↓aMapUpd.eq_def, ↓findA.eq_def, ↓aBin.eq_def, ↓aIntOp.eq_def, ↓aStrOp.eq_def, ↓aNilEq.eq_def, ↓qrun.eq_def, ↓qop.eq_def, ↓QAfter.eq_def, ↓callOf.eq_def, yieldA, quietOp, newOp, ↓Tr.get.eq_def, ↓Tr.set.eq_def, ↓pickT.eq_def, ↓ofL.eq_def, ↓mkT.eq_def, ↓toL_set, ↓toL_get, toL_map, Tr.map, Try.f20, ty32, ty3, ty4, ty9, ty29, ty27, ty2, fn20, tmcells, Tm.enc, Tm.same, h1, h2, h3, h4]
          intro h; exact absurd (by omega) h4
      · simp [↓run.eq_def, ↓aop.eq_def, ↓After.eq_def, ↓Resume.eq_def, ↓EndsV.eq_def, ↓aResults.eq_def, ↓aBuiltin.eq_def, ↓aLen.eq_def, ↓aLoad.eq_def, ↓aPart.eq_def, ↓aStore.eq_def, ↓aFieldAddr.eq_def, ↓aField.eq_def, ↓aOff.eq_def, ↓aAlloc.eq_def, ↓aBox.eq_def, ↓aIndex.eq_def, ↓aIndexAddr.eq_def, ↓aBuild.eq_def, ↓aBuildSlice.eq_def, ↓aAppend.eq_def, ↓aSlice.eq_def, ↓aBound.eq_def, ↓aUn.eq_def, ↓aConvert.eq_def, ↓aExtract.eq_def, ↓aMakeIface.eq_def, ↓aAssert.eq_def, ↓aMaxOp.eq_def, ↓aMax.eq_def, ↓aMakeMap.eq_def, ↓aLookup.eq_def, ↓aMapUpd.eq_def, ↓findA.eq_def, ↓aBin.eq_def, ↓aIntOp.eq_def, ↓aStrOp.eq_def, ↓aNilEq.eq_def, ↓qrun.eq_def, ↓qop.eq_def, ↓QAfter.eq_def, ↓callOf.eq_def, yieldA, quietOp, newOp, ↓Tr.get.eq_def, ↓Tr.set.eq_def, ↓pickT.eq_def, ↓ofL.eq_def, ↓mkT.eq_def, ↓toL_set, ↓toL_get, toL_map, Tr.map, Try.f20, ty32, ty3, ty4, ty9, ty29, ty27, ty2, fn20, tmcells, Tm.enc, Tm.same, h1, h2, h3]
    · simp [↓run.eq_def, ↓aop.eq_def, ↓After.eq_def, ↓Resume.eq_def, ↓EndsV.eq_def, ↓aResults.eq_def, ↓aBuiltin.eq_def, ↓aLen.eq_def, ↓aLoad.eq_def, ↓aPart.eq_def, ↓aStore.eq_def, ↓aFieldAddr.eq_def, ↓aField.eq_def, ↓aOff.eq_def, ↓aAlloc.eq_def, ↓aBox.eq_def, ↓aIndex.eq_def, ↓aIndexAddr.eq_def, ↓aBuild.eq_def, ↓aBuildSlice.eq_def, ↓aAppend.eq_def, ↓aSlice.eq_def, ↓aBound.eq_def, ↓aUn.eq_def, ↓aConvert.eq_def, ↓aExtract.eq_def, ↓aMakeIface.eq_def, ↓aAssert.eq_def, ↓aMaxOp.eq_def, ↓aMax.eq_def, ↓aMakeMap.eq_def, ↓aLookup.eq_def, ↓aMapUpd.eq_def, ↓findA.eq_def, ↓aBin.eq_def, ↓aIntOp.eq_def, ↓aStrOp.eq_def, ↓aNilEq.eq_def, ↓qrun.eq_def, ↓qop.eq_def, ↓QAfter.eq_def, ↓callOf.eq_def, yieldA, quietOp, newOp, ↓Tr.get.eq_def, ↓Tr.set.eq_def, ↓pickT.eq_def, ↓ofL.eq_def, ↓mkT.eq_def, ↓toL_set, ↓toL_get, toL_map, Tr.map, Try.f20, ty32, ty3, ty4, ty9, ty29, ty27, ty2, fn20, tmcells, Tm.enc, Tm.same, h1, h2]
  · simp [↓run.eq_def, ↓aop.eq_def, ↓After.eq_def, ↓Resume.eq_def, ↓EndsV.eq_def, ↓aResults.eq_def, ↓aBuiltin.eq_def, ↓aLen.eq_def, ↓aLoad.eq_def, ↓aPart.eq_def, ↓aStore.eq_def, ↓aFieldAddr.eq_def, ↓aField.eq_def, ↓aOff.eq_def, ↓aAlloc.eq_def, ↓aBox.eq_def, ↓aIndex.eq_def, ↓aIndexAddr.eq_def, ↓aBuild.eq_def, ↓aBuildSlice.eq_def, ↓aAppend.eq_def, ↓aSlice.eq_def, ↓aBound.eq_def, ↓aUn.eq_def, ↓aConvert.eq_def, ↓aExtract.eq_def, ↓aMakeIface.eq_def, ↓aAssert.eq_def, ↓aMaxOp.eq_def, ↓aMax.eq_def, ↓aMakeMap.eq_def, ↓aLookup.eq_def, ↓aMapUpd.eq_def, ↓findA.eq_def, ↓aBin.eq_def, ↓aIntOp.eq_def, ↓aStrOp.eq_def, ↓aNilEq.eq_def, ↓qrun.eq_def, ↓qop.eq_def, ↓QAfter.eq_def, ↓callOf.eq_def, yieldA, quietOp, newOp, ↓Tr.get.eq_def, ↓Tr.set.eq_def, ↓pickT.eq_def, ↓ofL.eq_def, ↓mkT.eq_def, ↓toL_set, ↓toL_get, toL_map, Tr.map, Try.f20, ty32, ty3, ty4, ty9, ty29, ty27, ty2, fn20, tmcells, Tm.enc, Tm.same, h1]
end Go.Proofs.Yteebkkipeiggcaa
