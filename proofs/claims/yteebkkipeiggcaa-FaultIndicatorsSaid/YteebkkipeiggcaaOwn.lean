import Derived.Test.YteebkkipeiggcaaTT
import Derived.KernelRfl
set_option linter.unusedVariables false
set_option linter.unusedSimpArgs false
namespace Go.Proofs.Yteebkkipeiggcaa
open Go Go.Vm

inductive Tm where
  | mk (kind n : Int) (s : ByteArray) (args : List Tm)

mutual
def Tm.enc : Tm → List AV
  | .mk k n s args => [.int .i64 k, .int .i64 n, .str s, .ro 4 (encs args)]
def encs : List Tm → List (List AV)
  | [] => []
  | t :: l => t.enc :: encs l
end

@[simp] theorem enc_length (t : Tm) : t.enc.length = 4 := by cases t; simp [Tm.enc]
@[simp] theorem enc_take (t : Tm) : t.enc.take 4 = t.enc := by cases t; simp [Tm.enc]
@[simp] theorem enc_setAt (t : Tm) (a b c d : AV) : setAt [a, b, c, d] 0 t.enc = t.enc := by cases t; simp [Tm.enc]
@[simp] theorem encs_length : ∀ l, (encs l).length = l.length
  | [] => rfl
  | t :: l => by simp [encs, encs_length l]
@[simp] theorem encs_append : ∀ l m, encs (l ++ m) = encs l ++ encs m
  | [], m => by simp [encs]
  | t :: l, m => by simp [encs, encs_append l m]

@[simp] theorem encs_take (l : List Tm) : (encs l).take l.length = encs l := by rw [← encs_length l]; exact List.take_length

mutual
theorem enc_noid (f : Nat → Sb) : ∀ t : Tm, subL f t.enc = t.enc
  | .mk k n s args => by simp [Tm.enc, encs_noid f args]
theorem encs_noid (f : Nat → Sb) : ∀ l : List Tm, subLL f (encs l) = encs l
  | [] => by simp [encs]
  | t :: l => by simp [encs, enc_noid f t, encs_noid f l]
end

@[simp] theorem enc_map (f : Nat → Sb) (t : Tm) : t.enc.map (AV.sub f) = t.enc := by rw [← subL_map]; exact enc_noid f t
@[simp] theorem encs_map (f : Nat → Sb) (l : List Tm) : (encs l).map (fun e => e.map (AV.sub f)) = encs l := by rw [← subLL_map]; exact encs_noid f l

theorem enc_closed (t : Tm) : Closed (.agg t.enc) := NoId.closed fun f => by simp [enc_noid]

theorem mixed : Try.prog.follows .mixedOrders = true := by kernel_rfl


theorem wrap64 {n : Int} (h1 : -9223372036854775808 ≤ n) (h2 : n < 9223372036854775808) : IntKind.i64.wrap n = n := by
  simp [IntKind.wrap, IntKind.bits, IntKind.signed]; omega

@[simp] theorem wrap64_one : IntKind.i64.wrap 1 = 1 := by decide

mutual
def Tm.Ok : Tm → Prop
  | .mk _ _ _ args => args.length ≤ 1000000 ∧ Oks args
def Oks : List Tm → Prop
  | [] => True
  | t :: l => t.Ok ∧ Oks l
end

theorem Oks_mem : ∀ {l : List Tm} {t : Tm}, Oks l → t ∈ l → t.Ok
  | t :: l, u, h, hm => by
    simp only [Oks] at h
    rcases List.mem_cons.1 hm with rfl | hm
    · exact h.1
    · exact Oks_mem h.2 hm

set_option maxRecDepth 20000 in
theorem own_ok : ∀ (m : Nat) (t : Tm), SizeOf.sizeOf t < m → t.Ok → ACalls Try.prog 56 [.agg t.enc] [] (fun r _ => r = .ret (.agg t.enc)) := by
  intro m
  induction m with
  | zero => intro t h; omega
  | succ m ih =>
  intro ⟨k, n, s, args⟩ hm hok
  have hmem : ∀ u ∈ args, ACalls Try.prog 56 [.agg u.enc] [] (fun r _ => r = .ret (.agg u.enc)) := fun u hu => ih u (by
    have := List.sizeOf_lt_of_mem hu
    simp at hm; omega) (Oks_mem hok.2 hu)
  have hlen : args.length ≤ 1000000 := hok.1
  clear ih hm hok
  refine ACalls.post (calls_run 100 fn56 ?_)
  simp [↓run.eq_def, ↓aop.eq_def, ↓After.eq_def, ↓Resume.eq_def, ↓EndsV.eq_def, ↓aResults.eq_def, ↓aBuiltin.eq_def, ↓aLen.eq_def, ↓aLoad.eq_def, ↓aPart.eq_def, ↓aStore.eq_def, ↓aFieldAddr.eq_def, ↓aField.eq_def, ↓aOff.eq_def, ↓aAlloc.eq_def, ↓aBox.eq_def, ↓aIndex.eq_def, ↓aIndexAddr.eq_def, ↓aBuild.eq_def, ↓aBuildSlice.eq_def, ↓aAppend.eq_def, ↓aSlice.eq_def, ↓aBound.eq_def, ↓aUn.eq_def, ↓aConvert.eq_def, ↓aExtract.eq_def, ↓aMakeIface.eq_def, ↓aAssert.eq_def, ↓aMaxOp.eq_def, ↓aMax.eq_def, ↓aMakeMap.eq_def, ↓aLookup.eq_def, ↓aMapUpd.eq_def, ↓findA.eq_def, ↓aBin.eq_def, ↓aIntOp.eq_def, ↓aStrOp.eq_def, ↓aNilEq.eq_def, ↓qrun.eq_def, ↓qop.eq_def, ↓QAfter.eq_def, ↓callOf.eq_def, yieldA, quietOp, newOp, ↓Tr.get.eq_def, ↓Tr.set.eq_def, ↓pickT.eq_def, ↓ofL.eq_def, ↓mkT.eq_def, ↓toL_set, ↓toL_get, toL_map, Tr.map, Try.f56, ty29, ty27, ty3, ty9, ty2, Tm.enc]
  cases args with
  | nil =>
    refine AStk.round (stk_run 100 ?_)
    simp [↓run.eq_def, ↓aop.eq_def, ↓After.eq_def, ↓Resume.eq_def, ↓EndsV.eq_def, ↓aResults.eq_def, ↓aBuiltin.eq_def, ↓aLen.eq_def, ↓aLoad.eq_def, ↓aPart.eq_def, ↓aStore.eq_def, ↓aFieldAddr.eq_def, ↓aField.eq_def, ↓aOff.eq_def, ↓aAlloc.eq_def, ↓aBox.eq_def, ↓aIndex.eq_def, ↓aIndexAddr.eq_def, ↓aBuild.eq_def, ↓aBuildSlice.eq_def, ↓aAppend.eq_def, ↓aSlice.eq_def, ↓aBound.eq_def, ↓aUn.eq_def, ↓aConvert.eq_def, ↓aExtract.eq_def, ↓aMakeIface.eq_def, ↓aAssert.eq_def, ↓aMaxOp.eq_def, ↓aMax.eq_def, ↓aMakeMap.eq_def, ↓aLookup.eq_def, ↓aMapUpd.eq_def, ↓findA.eq_def, ↓aBin.eq_def, ↓aIntOp.eq_def, ↓aStrOp.eq_def, ↓aNilEq.eq_def, ↓qrun.eq_def, ↓qop.eq_def, ↓QAfter.eq_def, ↓callOf.eq_def, yieldA, quietOp, newOp, ↓Tr.get.eq_def, ↓Tr.set.eq_def, ↓pickT.eq_def, ↓ofL.eq_def, ↓mkT.eq_def, ↓toL_set, ↓toL_get, toL_map, Tr.map, encs, ty29, ty27, ty3, ty9, ty2]
    refine .wk (.ret (.agg [.int .i64 k, .int .i64 n, .str s, .ro 4 []])) (.ret (.agg (.cons (.refl _) (.cons (.refl _) (.cons (.refl _) (.cons (.nil 4) .nil)))))) (.done rfl)
  | cons t args =>
    refine AStk.round (stk_run 100 ?_)
    simp [↓run.eq_def, ↓aop.eq_def, ↓After.eq_def, ↓Resume.eq_def, ↓EndsV.eq_def, ↓aResults.eq_def, ↓aBuiltin.eq_def, ↓aLen.eq_def, ↓aLoad.eq_def, ↓aPart.eq_def, ↓aStore.eq_def, ↓aFieldAddr.eq_def, ↓aField.eq_def, ↓aOff.eq_def, ↓aAlloc.eq_def, ↓aBox.eq_def, ↓aIndex.eq_def, ↓aIndexAddr.eq_def, ↓aBuild.eq_def, ↓aBuildSlice.eq_def, ↓aAppend.eq_def, ↓aSlice.eq_def, ↓aBound.eq_def, ↓aUn.eq_def, ↓aConvert.eq_def, ↓aExtract.eq_def, ↓aMakeIface.eq_def, ↓aAssert.eq_def, ↓aMaxOp.eq_def, ↓aMax.eq_def, ↓aMakeMap.eq_def, ↓aLookup.eq_def, ↓aMapUpd.eq_def, ↓findA.eq_def, ↓aBin.eq_def, ↓aIntOp.eq_def, ↓aStrOp.eq_def, ↓aNilEq.eq_def, ↓qrun.eq_def, ↓qop.eq_def, ↓QAfter.eq_def, ↓callOf.eq_def, yieldA, quietOp, newOp, ↓Tr.get.eq_def, ↓Tr.set.eq_def, ↓pickT.eq_def, ↓ofL.eq_def, ↓mkT.eq_def, ↓toL_set, ↓toL_get, toL_map, Tr.map, encs, ty29, ty27, ty3, ty9, ty2]
    refine stk_draw mixed (tabOf_ok _) (fnOf_ok _) 5 (by kernel_rfl) ?_
    simp [↓run.eq_def, ↓aop.eq_def, ↓After.eq_def, ↓Resume.eq_def, ↓EndsV.eq_def, ↓aResults.eq_def, ↓aBuiltin.eq_def, ↓aLen.eq_def, ↓aLoad.eq_def, ↓aPart.eq_def, ↓aStore.eq_def, ↓aFieldAddr.eq_def, ↓aField.eq_def, ↓aOff.eq_def, ↓aAlloc.eq_def, ↓aBox.eq_def, ↓aIndex.eq_def, ↓aIndexAddr.eq_def, ↓aBuild.eq_def, ↓aBuildSlice.eq_def, ↓aAppend.eq_def, ↓aSlice.eq_def, ↓aBound.eq_def, ↓aUn.eq_def, ↓aConvert.eq_def, ↓aExtract.eq_def, ↓aMakeIface.eq_def, ↓aAssert.eq_def, ↓aMaxOp.eq_def, ↓aMax.eq_def, ↓aMakeMap.eq_def, ↓aLookup.eq_def, ↓aMapUpd.eq_def, ↓findA.eq_def, ↓aBin.eq_def, ↓aIntOp.eq_def, ↓aStrOp.eq_def, ↓aNilEq.eq_def, ↓qrun.eq_def, ↓qop.eq_def, ↓QAfter.eq_def, ↓callOf.eq_def, yieldA, quietOp, newOp, ↓Tr.get.eq_def, ↓Tr.set.eq_def, ↓pickT.eq_def, ↓ofL.eq_def, ↓mkT.eq_def, ↓toL_set, ↓toL_get, toL_map, Tr.map, encs, ty29, ty27, ty3, ty9, ty2, fn56]
    refine QCall.intro (.agg t.enc) (by simp [enc_closed]) (enc_closed t) (hmem t (by simp)) ?_
    simp [↓run.eq_def, ↓aop.eq_def, ↓After.eq_def, ↓Resume.eq_def, ↓EndsV.eq_def, ↓aResults.eq_def, ↓aBuiltin.eq_def, ↓aLen.eq_def, ↓aLoad.eq_def, ↓aPart.eq_def, ↓aStore.eq_def, ↓aFieldAddr.eq_def, ↓aField.eq_def, ↓aOff.eq_def, ↓aAlloc.eq_def, ↓aBox.eq_def, ↓aIndex.eq_def, ↓aIndexAddr.eq_def, ↓aBuild.eq_def, ↓aBuildSlice.eq_def, ↓aAppend.eq_def, ↓aSlice.eq_def, ↓aBound.eq_def, ↓aUn.eq_def, ↓aConvert.eq_def, ↓aExtract.eq_def, ↓aMakeIface.eq_def, ↓aAssert.eq_def, ↓aMaxOp.eq_def, ↓aMax.eq_def, ↓aMakeMap.eq_def, ↓aLookup.eq_def, ↓aMapUpd.eq_def, ↓findA.eq_def, ↓aBin.eq_def, ↓aIntOp.eq_def, ↓aStrOp.eq_def, ↓aNilEq.eq_def, ↓qrun.eq_def, ↓qop.eq_def, ↓QAfter.eq_def, ↓callOf.eq_def, yieldA, quietOp, newOp, ↓Tr.get.eq_def, ↓Tr.set.eq_def, ↓pickT.eq_def, ↓ofL.eq_def, ↓mkT.eq_def, ↓toL_set, ↓toL_get, toL_map, Tr.map, encs, ty29, ty27, ty3, ty9, ty2, fn56]
    refine stk_run 100 ?_
    simp [↓run.eq_def, ↓aop.eq_def, ↓After.eq_def, ↓Resume.eq_def, ↓EndsV.eq_def, ↓aResults.eq_def, ↓aBuiltin.eq_def, ↓aLen.eq_def, ↓aLoad.eq_def, ↓aPart.eq_def, ↓aStore.eq_def, ↓aFieldAddr.eq_def, ↓aField.eq_def, ↓aOff.eq_def, ↓aAlloc.eq_def, ↓aBox.eq_def, ↓aIndex.eq_def, ↓aIndexAddr.eq_def, ↓aBuild.eq_def, ↓aBuildSlice.eq_def, ↓aAppend.eq_def, ↓aSlice.eq_def, ↓aBound.eq_def, ↓aUn.eq_def, ↓aConvert.eq_def, ↓aExtract.eq_def, ↓aMakeIface.eq_def, ↓aAssert.eq_def, ↓aMaxOp.eq_def, ↓aMax.eq_def, ↓aMakeMap.eq_def, ↓aLookup.eq_def, ↓aMapUpd.eq_def, ↓findA.eq_def, ↓aBin.eq_def, ↓aIntOp.eq_def, ↓aStrOp.eq_def, ↓aNilEq.eq_def, ↓qrun.eq_def, ↓qop.eq_def, ↓QAfter.eq_def, ↓callOf.eq_def, yieldA, quietOp, newOp, ↓Tr.get.eq_def, ↓Tr.set.eq_def, ↓pickT.eq_def, ↓ofL.eq_def, ↓mkT.eq_def, ↓toL_set, ↓toL_get, toL_map, Tr.map, encs, ty29, ty27, ty3, ty9, ty2, fn56]
    refine AStk.live [1, 2, 9, 10, 11] (AStk.gc [0, 1, 4] (by simp) (by simp) (by simp) ?_)
    simp [enc_noid, encs_noid]
    refine AStk.ind (fun d a h => ∃ done rest, t :: args = done ++ rest ∧ done ≠ [] ∧ d = rest.length ∧ a = ⟨[.any, .ptr 0 0, .ptr 1 0, .any, .any, .any, .any, .any, .any, .ro 4 (t.enc :: encs args), .int .i64 (↑args.length + 1), .int .i64 ↑done.length, .any, .any, .any, .any, .any, .any, .any, .any, .any, .any, .any, .any], []⟩ ∧ h = [.var [.int .i64 k, .int .i64 n, .str s, .sl 2 0 done.length], .var [.int .i64 0, .int .i64 0, .str ⟨#[]⟩, .nils], .arr 4 (encs done) false]) (n := args.length) ?_ ?_
    · exact ⟨[t], args, rfl, by simp, rfl, by simp, by simp [encs]⟩
    rintro d a h ⟨done, rest, hall, hne, rfl, rfl, rfl⟩ IH
    simp at hlen
    refine stk_run 100 ?_
    cases rest with
    | nil =>
      have hes : t.enc :: encs args = encs done := by have := congrArg encs hall; simpa [encs] using this
      have hll : (args.length : Int) + 1 = done.length := by have := congrArg List.length hall; simp at this; omega
      rw [hes, hll]
      simp [↓run.eq_def, ↓aop.eq_def, ↓After.eq_def, ↓Resume.eq_def, ↓EndsV.eq_def, ↓aResults.eq_def, ↓aBuiltin.eq_def, ↓aLen.eq_def, ↓aLoad.eq_def, ↓aPart.eq_def, ↓aStore.eq_def, ↓aFieldAddr.eq_def, ↓aField.eq_def, ↓aOff.eq_def, ↓aAlloc.eq_def, ↓aBox.eq_def, ↓aIndex.eq_def, ↓aIndexAddr.eq_def, ↓aBuild.eq_def, ↓aBuildSlice.eq_def, ↓aAppend.eq_def, ↓aSlice.eq_def, ↓aBound.eq_def, ↓aUn.eq_def, ↓aConvert.eq_def, ↓aExtract.eq_def, ↓aMakeIface.eq_def, ↓aAssert.eq_def, ↓aMaxOp.eq_def, ↓aMax.eq_def, ↓aMakeMap.eq_def, ↓aLookup.eq_def, ↓aMapUpd.eq_def, ↓findA.eq_def, ↓aBin.eq_def, ↓aIntOp.eq_def, ↓aStrOp.eq_def, ↓aNilEq.eq_def, ↓qrun.eq_def, ↓qop.eq_def, ↓QAfter.eq_def, ↓callOf.eq_def, yieldA, quietOp, newOp, ↓Tr.get.eq_def, ↓Tr.set.eq_def, ↓pickT.eq_def, ↓ofL.eq_def, ↓mkT.eq_def, ↓toL_set, ↓toL_get, toL_map, Tr.map, encs, ty29, ty27, ty3, ty9, ty2]
      exact .fz 2 rfl (.done (by simp [← encs_length]))
    | cons u rest =>
      have hes : t.enc :: encs args = encs done ++ u.enc :: encs rest := by have := congrArg encs hall; simpa [encs] using this
      have hll : (args.length : Int) + 1 = done.length + (rest.length + 1) := by have := congrArg List.length hall; simp at this; omega
      rw [hes, hll] at IH ⊢
      have hlt : (done.length : Int) < done.length + (rest.length + 1) := by omega
      simp [↓run.eq_def, ↓aop.eq_def, ↓After.eq_def, ↓Resume.eq_def, ↓EndsV.eq_def, ↓aResults.eq_def, ↓aBuiltin.eq_def, ↓aLen.eq_def, ↓aLoad.eq_def, ↓aPart.eq_def, ↓aStore.eq_def, ↓aFieldAddr.eq_def, ↓aField.eq_def, ↓aOff.eq_def, ↓aAlloc.eq_def, ↓aBox.eq_def, ↓aIndex.eq_def, ↓aIndexAddr.eq_def, ↓aBuild.eq_def, ↓aBuildSlice.eq_def, ↓aAppend.eq_def, ↓aSlice.eq_def, ↓aBound.eq_def, ↓aUn.eq_def, ↓aConvert.eq_def, ↓aExtract.eq_def, ↓aMakeIface.eq_def, ↓aAssert.eq_def, ↓aMaxOp.eq_def, ↓aMax.eq_def, ↓aMakeMap.eq_def, ↓aLookup.eq_def, ↓aMapUpd.eq_def, ↓findA.eq_def, ↓aBin.eq_def, ↓aIntOp.eq_def, ↓aStrOp.eq_def, ↓aNilEq.eq_def, ↓qrun.eq_def, ↓qop.eq_def, ↓QAfter.eq_def, ↓callOf.eq_def, yieldA, quietOp, newOp, ↓Tr.get.eq_def, ↓Tr.set.eq_def, ↓pickT.eq_def, ↓ofL.eq_def, ↓mkT.eq_def, ↓toL_set, ↓toL_get, toL_map, Tr.map, encs, ty29, ty27, ty3, ty9, ty2, fn56, hlt]
      refine stk_draw mixed (tabOf_ok _) (fnOf_ok _) 5 (by kernel_rfl) ?_
      simp [↓run.eq_def, ↓aop.eq_def, ↓After.eq_def, ↓Resume.eq_def, ↓EndsV.eq_def, ↓aResults.eq_def, ↓aBuiltin.eq_def, ↓aLen.eq_def, ↓aLoad.eq_def, ↓aPart.eq_def, ↓aStore.eq_def, ↓aFieldAddr.eq_def, ↓aField.eq_def, ↓aOff.eq_def, ↓aAlloc.eq_def, ↓aBox.eq_def, ↓aIndex.eq_def, ↓aIndexAddr.eq_def, ↓aBuild.eq_def, ↓aBuildSlice.eq_def, ↓aAppend.eq_def, ↓aSlice.eq_def, ↓aBound.eq_def, ↓aUn.eq_def, ↓aConvert.eq_def, ↓aExtract.eq_def, ↓aMakeIface.eq_def, ↓aAssert.eq_def, ↓aMaxOp.eq_def, ↓aMax.eq_def, ↓aMakeMap.eq_def, ↓aLookup.eq_def, ↓aMapUpd.eq_def, ↓findA.eq_def, ↓aBin.eq_def, ↓aIntOp.eq_def, ↓aStrOp.eq_def, ↓aNilEq.eq_def, ↓qrun.eq_def, ↓qop.eq_def, ↓QAfter.eq_def, ↓callOf.eq_def, yieldA, quietOp, newOp, ↓Tr.get.eq_def, ↓Tr.set.eq_def, ↓pickT.eq_def, ↓ofL.eq_def, ↓mkT.eq_def, ↓toL_set, ↓toL_get, toL_map, Tr.map, encs, ty29, ty27, ty3, ty9, ty2, fn56]
      refine QCall.intro (.agg u.enc) (by simp [enc_closed]) (enc_closed u) (hmem u (by simp [hall])) ?_
      simp [↓run.eq_def, ↓aop.eq_def, ↓After.eq_def, ↓Resume.eq_def, ↓EndsV.eq_def, ↓aResults.eq_def, ↓aBuiltin.eq_def, ↓aLen.eq_def, ↓aLoad.eq_def, ↓aPart.eq_def, ↓aStore.eq_def, ↓aFieldAddr.eq_def, ↓aField.eq_def, ↓aOff.eq_def, ↓aAlloc.eq_def, ↓aBox.eq_def, ↓aIndex.eq_def, ↓aIndexAddr.eq_def, ↓aBuild.eq_def, ↓aBuildSlice.eq_def, ↓aAppend.eq_def, ↓aSlice.eq_def, ↓aBound.eq_def, ↓aUn.eq_def, ↓aConvert.eq_def, ↓aExtract.eq_def, ↓aMakeIface.eq_def, ↓aAssert.eq_def, ↓aMaxOp.eq_def, ↓aMax.eq_def, ↓aMakeMap.eq_def, ↓aLookup.eq_def, ↓aMapUpd.eq_def, ↓findA.eq_def, ↓aBin.eq_def, ↓aIntOp.eq_def, ↓aStrOp.eq_def, ↓aNilEq.eq_def, ↓qrun.eq_def, ↓qop.eq_def, ↓QAfter.eq_def, ↓callOf.eq_def, yieldA, quietOp, newOp, ↓Tr.get.eq_def, ↓Tr.set.eq_def, ↓pickT.eq_def, ↓ofL.eq_def, ↓mkT.eq_def, ↓toL_set, ↓toL_get, toL_map, Tr.map, encs, ty29, ty27, ty3, ty9, ty2, fn56]
      refine stk_run 100 ?_
      simp [↓run.eq_def, ↓aop.eq_def, ↓After.eq_def, ↓Resume.eq_def, ↓EndsV.eq_def, ↓aResults.eq_def, ↓aBuiltin.eq_def, ↓aLen.eq_def, ↓aLoad.eq_def, ↓aPart.eq_def, ↓aStore.eq_def, ↓aFieldAddr.eq_def, ↓aField.eq_def, ↓aOff.eq_def, ↓aAlloc.eq_def, ↓aBox.eq_def, ↓aIndex.eq_def, ↓aIndexAddr.eq_def, ↓aBuild.eq_def, ↓aBuildSlice.eq_def, ↓aAppend.eq_def, ↓aSlice.eq_def, ↓aBound.eq_def, ↓aUn.eq_def, ↓aConvert.eq_def, ↓aExtract.eq_def, ↓aMakeIface.eq_def, ↓aAssert.eq_def, ↓aMaxOp.eq_def, ↓aMax.eq_def, ↓aMakeMap.eq_def, ↓aLookup.eq_def, ↓aMapUpd.eq_def, ↓findA.eq_def, ↓aBin.eq_def, ↓aIntOp.eq_def, ↓aStrOp.eq_def, ↓aNilEq.eq_def, ↓qrun.eq_def, ↓qop.eq_def, ↓QAfter.eq_def, ↓callOf.eq_def, yieldA, quietOp, newOp, ↓Tr.get.eq_def, ↓Tr.set.eq_def, ↓pickT.eq_def, ↓ofL.eq_def, ↓mkT.eq_def, ↓toL_set, ↓toL_get, toL_map, Tr.map, encs, ty29, ty27, ty3, ty9, ty2, fn56]
      rw [wrap64 (by omega) (by omega)]
      refine ⟨by omega, ?_⟩
      refine AStk.live [1, 2, 9, 10, 11] (AStk.gc [0, 1, 5] (by simp) (by simp) (by simp) ?_)
      simp
      refine IH rest.length _ _ (by simp) ⟨done ++ [u], rest, by simp [hall], by simp, rfl, ?_, ?_⟩
      · simp [encs, enc_noid, encs_noid]
      · simp [encs]
