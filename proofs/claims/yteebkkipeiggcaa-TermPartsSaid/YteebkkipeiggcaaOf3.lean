/- Contracts: how a term is built of parts, and mended. -/
import Derived.Test.YteebkkipeiggcaaR3
set_option linter.unusedVariables false
set_option linter.unusedSimpArgs false
namespace Go.Proofs.Yteebkkipeiggcaa
open Go Go.Vm

set_option maxRecDepth 20000
set_option maxHeartbeats 1000000

def atomA : Tm := ⟨3, 0, ⟨#[97]⟩, []⟩

def kidsF (g : List Pt → Tm × Nat) : Nat → List Pt → List Tm × Nat
  | 0, _ => ([], 0)
  | k + 1, l => ((g l).1 :: (kidsF g k (l.drop (g l).2)).1, (g l).2 + (kidsF g k (l.drop (g l).2)).2)

def ofF : Nat → List Pt → Tm × Nat
  | 0, _ => (atomA, 0)
  | _ + 1, [] => (atomA, 0)
  | f + 1, p :: l => (⟨p.kind, p.n, p.s, (kidsF (ofF f) (p.args % 8).toNat l).1⟩, 1 + (kidsF (ofF f) (p.args % 8).toNat l).2)

theorem kidsF_le {g : List Pt → Tm × Nat} (hg : ∀ l, (g l).2 ≤ l.length) : ∀ k l, (kidsF g k l).2 ≤ l.length
  | 0, l => by simp [kidsF]
  | k + 1, l => by
    have h1 := hg l
    have h2 := kidsF_le hg k (l.drop (g l).2)
    simp [kidsF] at h2 ⊢
    omega

theorem ofF_le : ∀ f l, (ofF f l).2 ≤ l.length
  | 0, l => by simp [ofF]
  | f + 1, [] => by simp [ofF]
  | f + 1, p :: l => by
    have := kidsF_le (ofF_le f) (p.args % 8).toNat l
    simp [ofF]; omega

theorem kidsF_size {g : List Pt → Tm × Nat} (hg : ∀ l, (g l).1.size ≤ 1 + 7 * (g l).2) : ∀ k l, sizes (kidsF g k l).1 ≤ k + 7 * (kidsF g k l).2
  | 0, l => by simp [kidsF]
  | k + 1, l => by
    have h1 := hg l
    have h2 := kidsF_size hg k (l.drop (g l).2)
    simp [kidsF] at h2 ⊢
    omega

theorem ofF_size : ∀ f l, (ofF f l).1.size ≤ 1 + 7 * (ofF f l).2
  | 0, l => by simp [ofF, atomA, Tm.size_eq]
  | f + 1, [] => by simp [ofF, atomA, Tm.size_eq]
  | f + 1, p :: l => by
    have := kidsF_size (ofF_size f) (p.args % 8).toNat l
    simp [ofF, Tm.size_eq]; omega

theorem kidsF_add (g : List Pt → Tm × Nat) : ∀ j k l, (kidsF g (j + k) l) = ((kidsF g j l).1 ++ (kidsF g k (l.drop (kidsF g j l).2)).1, (kidsF g j l).2 + (kidsF g k (l.drop (kidsF g j l).2)).2)
  | 0, k, l => by simp [kidsF]
  | j + 1, k, l => by
    rw [show j + 1 + k = (j + k) + 1 by omega]
    simp [kidsF, kidsF_add g j k, Nat.add_assoc]

theorem kidsF_length (g : List Pt → Tm × Nat) : ∀ k l, (kidsF g k l).1.length = k
  | 0, l => by simp [kidsF]
  | k + 1, l => by simp [kidsF, kidsF_length g k]

theorem of_ok : ∀ (f : Nat) (l : List Pt), l.length < f → l.length ≤ 60 → (∀ p ∈ l, 0 ≤ p.args ∧ p.args ≤ 255) → ACalls Try.prog 49 [.ro 4 (encP l)] [] (fun r _ => r = .ret (.tup [.agg (ofF f l).1.enc, .int .i64 (ofF f l).2])) := by
  intro f
  induction f with
  | zero => intro l h; omega
  | succ f ih =>
  intro l hl h60 hb
  cases l with
  | nil =>
    refine ACalls.post (calls_tree 400 fn49 (by simp [Try.f49]) ?_); simp (maxSteps := 3000000) [↓run.eq_def, ↓aop.eq_def, ↓After.eq_def, ↓Resume.eq_def, ↓EndsV.eq_def, ↓aResults.eq_def, ↓aBuiltin.eq_def, ↓aLen.eq_def, ↓aLoad.eq_def, ↓aPart.eq_def, ↓aStore.eq_def, ↓aFieldAddr.eq_def, ↓aField.eq_def, ↓aOff.eq_def, ↓aAlloc.eq_def, ↓aBox.eq_def, ↓aIndex.eq_def, ↓aIndexAddr.eq_def, ↓aBuild.eq_def, ↓aBuildSlice.eq_def, ↓aAppend.eq_def, ↓aSlice.eq_def, ↓aBound.eq_def, ↓aUn.eq_def, ↓aConvert.eq_def, ↓aExtract.eq_def, ↓aMakeIface.eq_def, ↓aAssert.eq_def, ↓aMaxOp.eq_def, ↓aMax.eq_def, ↓aMakeMap.eq_def, ↓aLookup.eq_def, ↓aMapUpd.eq_def, ↓findA_P, findP.eq_1, findP.eq_2, ↓aBin.eq_def, ↓aIntOp.eq_def, ↓aStrOp.eq_def, ↓aNilEq.eq_def, ↓qrun.eq_def, ↓qop.eq_def, ↓QAfter.eq_def, ↓callOf.eq_def, yieldA, quietOp, newOp, ↓Tr.get.eq_def, ↓Tr.set.eq_def, ↓pickT.eq_def, ↓ofL.eq_def, ↓mkT.eq_def, ↓toL_set, ↓toL_get, toL_map, Tr.map, ↓aAppendAcc.eq_def, ↓aLenAcc.eq_def, Try.f49]
    simp [ofF, atomA]
    (try simp [Tm.enc]); (first | (refine .done ?_; simp [Tm.enc]; done) | (refine Tn.wkRet ?_; (repeat (first | with_reducible exact AV.Wk.refl _ | with_reducible exact WkL.refl _ | with_reducible exact WkLL.refl _ | exact AV.Wk.nil _ | apply AV.Wk.agg | apply AV.Wk.tup | apply AV.Wk.ro | apply WkL.cons | apply WkLL.cons | exact WkL.nil | exact WkLL.nil))))
  | cons p l =>
    have hsub : ∀ i, 1 ≤ i → ACalls Try.prog 49 [.ro 4 (encP ((p :: l).drop i))] [] (fun r _ => r = .ret (.tup [.agg (ofF f ((p :: l).drop i)).1.enc, .int .i64 (ofF f ((p :: l).drop i)).2])) := fun i hi =>
      ih _ (by simp at hl ⊢; omega) (by simp at h60 ⊢; omega) (fun q hq => hb q (List.mem_of_mem_drop hq))
    clear ih
    have hp := hb p (by simp)
    have hm : p.args.tmod 8 = p.args % 8 := Int.tmod_eq_emod_of_nonneg hp.1
    simp at h60
    have hz : ¬ (l.length : Int) + 1 = 0 := by omega
    generalize hR : ofF (f + 1) (p :: l) = R
    refine ACalls.post (calls_tree 400 fn49 (by simp [Try.f49]) ?_); simp (maxSteps := 3000000) [↓run.eq_def, ↓aop.eq_def, ↓After.eq_def, ↓Resume.eq_def, ↓EndsV.eq_def, ↓aResults.eq_def, ↓aBuiltin.eq_def, ↓aLen.eq_def, ↓aLoad.eq_def, ↓aPart.eq_def, ↓aStore.eq_def, ↓aFieldAddr.eq_def, ↓aField.eq_def, ↓aOff.eq_def, ↓aAlloc.eq_def, ↓aBox.eq_def, ↓aIndex.eq_def, ↓aIndexAddr.eq_def, ↓aBuild.eq_def, ↓aBuildSlice.eq_def, ↓aAppend.eq_def, ↓aSlice.eq_def, ↓aBound.eq_def, ↓aUn.eq_def, ↓aConvert.eq_def, ↓aExtract.eq_def, ↓aMakeIface.eq_def, ↓aAssert.eq_def, ↓aMaxOp.eq_def, ↓aMax.eq_def, ↓aMakeMap.eq_def, ↓aLookup.eq_def, ↓aMapUpd.eq_def, ↓findA_P, findP.eq_1, findP.eq_2, ↓aBin.eq_def, ↓aIntOp.eq_def, ↓aStrOp.eq_def, ↓aNilEq.eq_def, ↓qrun.eq_def, ↓qop.eq_def, ↓QAfter.eq_def, ↓callOf.eq_def, yieldA, quietOp, newOp, ↓Tr.get.eq_def, ↓Tr.set.eq_def, ↓pickT.eq_def, ↓ofL.eq_def, ↓mkT.eq_def, ↓toL_set, ↓toL_get, toL_map, Tr.map, ↓aAppendAcc.eq_def, ↓aLenAcc.eq_def, Try.f49, hm, hz]
    refine AStk.pad ?_
    refine AStk.liveT [0, 2, 4, 5, 6, 7] (AStk.gc [0, 1, 2, 3] (by simp) (by simp) (by simp) ?_); simp [↓run.eq_def, ↓aop.eq_def, ↓After.eq_def, ↓Resume.eq_def, ↓EndsV.eq_def, ↓aResults.eq_def, ↓aBuiltin.eq_def, ↓aLen.eq_def, ↓aLoad.eq_def, ↓aPart.eq_def, ↓aStore.eq_def, ↓aFieldAddr.eq_def, ↓aField.eq_def, ↓aOff.eq_def, ↓aAlloc.eq_def, ↓aBox.eq_def, ↓aIndex.eq_def, ↓aIndexAddr.eq_def, ↓aBuild.eq_def, ↓aBuildSlice.eq_def, ↓aAppend.eq_def, ↓aSlice.eq_def, ↓aBound.eq_def, ↓aUn.eq_def, ↓aConvert.eq_def, ↓aExtract.eq_def, ↓aMakeIface.eq_def, ↓aAssert.eq_def, ↓aMaxOp.eq_def, ↓aMax.eq_def, ↓aMakeMap.eq_def, ↓aLookup.eq_def, ↓aMapUpd.eq_def, ↓findA_P, findP.eq_1, findP.eq_2, ↓aBin.eq_def, ↓aIntOp.eq_def, ↓aStrOp.eq_def, ↓aNilEq.eq_def, ↓qrun.eq_def, ↓qop.eq_def, ↓QAfter.eq_def, ↓callOf.eq_def, yieldA, quietOp, newOp, ↓Tr.get.eq_def, ↓Tr.set.eq_def, ↓pickT.eq_def, ↓ofL.eq_def, ↓mkT.eq_def, ↓toL_set, ↓toL_get, toL_map, Tr.map]
    generalize hk : (p.args % 8).toNat = k
    have hk8 : p.args % 8 = k := by omega
    have hw : IntKind.i64.wrap (p.args % 8) = k := by rw [hk8]; exact wrap64 (by omega) (by omega)
    refine AStk.indE (fun d_ a_ h_ => ∃ (ds : List Tm) (at_ j : Nat), ((kidsF (ofF f) k l).1 = ds ++ (kidsF (ofF f) j (l.drop at_)).1 ∧ (kidsF (ofF f) k l).2 = at_ + (kidsF (ofF f) j (l.drop at_)).2 ∧ ds.length + j = k) ∧ d_ = j ∧ a_ = ⟨toL 50 (mkT [(0, .ro 4 (p.enc :: encP l)), (2, .ptr 0 0), (4, .ptr 1 0), (5, .ptr 2 0), (6, .int .i64 (at_ + 1)), (7, .int .i64 ds.length)] (.e .any)), []⟩ ∧ h_ = [.var [.int .i64 0, .int .i64 0, .str ⟨#[]⟩, .nils], .var [.int .i64 p.kind, .int .i64 p.n, .str p.s, .int .u8 p.args], .var [.int .i64 p.kind, .int .i64 p.n, .str p.s, accS 4 3 (encs ds)], accB 4 (encs ds)]) ?_ ?_
    · exact ⟨_, [], 0, k, ⟨by simp, by simp, by simp⟩, rfl, by simp [↓run.eq_def, ↓aop.eq_def, ↓After.eq_def, ↓Resume.eq_def, ↓EndsV.eq_def, ↓aResults.eq_def, ↓aBuiltin.eq_def, ↓aLen.eq_def, ↓aLoad.eq_def, ↓aPart.eq_def, ↓aStore.eq_def, ↓aFieldAddr.eq_def, ↓aField.eq_def, ↓aOff.eq_def, ↓aAlloc.eq_def, ↓aBox.eq_def, ↓aIndex.eq_def, ↓aIndexAddr.eq_def, ↓aBuild.eq_def, ↓aBuildSlice.eq_def, ↓aAppend.eq_def, ↓aSlice.eq_def, ↓aBound.eq_def, ↓aUn.eq_def, ↓aConvert.eq_def, ↓aExtract.eq_def, ↓aMakeIface.eq_def, ↓aAssert.eq_def, ↓aMaxOp.eq_def, ↓aMax.eq_def, ↓aMakeMap.eq_def, ↓aLookup.eq_def, ↓aMapUpd.eq_def, ↓findA_P, findP.eq_1, findP.eq_2, ↓aBin.eq_def, ↓aIntOp.eq_def, ↓aStrOp.eq_def, ↓aNilEq.eq_def, ↓qrun.eq_def, ↓qop.eq_def, ↓QAfter.eq_def, ↓callOf.eq_def, yieldA, quietOp, newOp, ↓Tr.get.eq_def, ↓Tr.set.eq_def, ↓pickT.eq_def, ↓ofL.eq_def, ↓mkT.eq_def, ↓toL_set, ↓toL_get, toL_map, Tr.map], by simp⟩
    rintro d a h ⟨ds, at_, j, ⟨e1, e2, e3⟩, rfl, rfl, rfl⟩ IH
    have hle := kidsF_le (ofF_le f) k l
    cases d with
    | zero =>
      have hlt : ¬ (ds.length : Int) < k := by omega
      simp [kidsF] at e1 e2
      have hof : ofF (f + 1) (p :: l) = (⟨p.kind, p.n, p.s, ds⟩, at_ + 1) := by simp [ofF, hk, e1, e2]; omega
      rw [hof] at hR; subst hR
      refine stk_run 400 ?_; simp (maxSteps := 3000000) [↓run.eq_def, ↓aop.eq_def, ↓After.eq_def, ↓Resume.eq_def, ↓EndsV.eq_def, ↓aResults.eq_def, ↓aBuiltin.eq_def, ↓aLen.eq_def, ↓aLoad.eq_def, ↓aPart.eq_def, ↓aStore.eq_def, ↓aFieldAddr.eq_def, ↓aField.eq_def, ↓aOff.eq_def, ↓aAlloc.eq_def, ↓aBox.eq_def, ↓aIndex.eq_def, ↓aIndexAddr.eq_def, ↓aBuild.eq_def, ↓aBuildSlice.eq_def, ↓aAppend.eq_def, ↓aSlice.eq_def, ↓aBound.eq_def, ↓aUn.eq_def, ↓aConvert.eq_def, ↓aExtract.eq_def, ↓aMakeIface.eq_def, ↓aAssert.eq_def, ↓aMaxOp.eq_def, ↓aMax.eq_def, ↓aMakeMap.eq_def, ↓aLookup.eq_def, ↓aMapUpd.eq_def, ↓findA_P, findP.eq_1, findP.eq_2, ↓aBin.eq_def, ↓aIntOp.eq_def, ↓aStrOp.eq_def, ↓aNilEq.eq_def, ↓qrun.eq_def, ↓qop.eq_def, ↓QAfter.eq_def, ↓callOf.eq_def, yieldA, quietOp, newOp, ↓Tr.get.eq_def, ↓Tr.set.eq_def, ↓pickT.eq_def, ↓ofL.eq_def, ↓mkT.eq_def, ↓toL_set, ↓toL_get, toL_map, Tr.map, ↓aAppendAcc.eq_def, ↓aLenAcc.eq_def, hm, hw, hlt]
      rcases ds with _ | ⟨d0, ds⟩
      · simp
        (try simp [Tm.enc]); (first | (refine .done ?_; simp [Tm.enc]; done) | (refine Tn.wkRet ?_; (repeat (first | with_reducible exact AV.Wk.refl _ | with_reducible exact WkL.refl _ | with_reducible exact WkLL.refl _ | exact AV.Wk.nil _ | apply AV.Wk.agg | apply AV.Wk.tup | apply AV.Wk.ro | apply WkL.cons | apply WkLL.cons | exact WkL.nil | exact WkLL.nil))))
      · simp
        refine .fz 3 rfl ?_; simp
        (try simp [Tm.enc]); (first | (refine .done ?_; simp [Tm.enc]; done) | (refine Tn.wkRet ?_; (repeat (first | with_reducible exact AV.Wk.refl _ | with_reducible exact WkL.refl _ | with_reducible exact WkLL.refl _ | exact AV.Wk.nil _ | apply AV.Wk.agg | apply AV.Wk.tup | apply AV.Wk.ro | apply WkL.cons | apply WkLL.cons | exact WkL.nil | exact WkLL.nil))))
    | succ j =>
      have hlt : (ds.length : Int) < k := by omega
      have hjk : ((kidsF (ofF f) (j + 1) (l.drop at_))).2 = (ofF f (l.drop at_)).2 + (kidsF (ofF f) j ((l.drop at_).drop (ofF f (l.drop at_)).2)).2 := rfl
      have hsl : at_ ≤ l.length := by omega
      have hs0 : (0 : Int) ≤ (at_ : Int) + 1 := by omega
      have hn := ofF_le f (l.drop at_)
      have e1' : (kidsF (ofF f) k l).fst = ds ++ ((ofF f (l.drop at_)).1 :: (kidsF (ofF f) j ((l.drop at_).drop (ofF f (l.drop at_)).2)).1) := e1
      have hroom : (ds.length + 1) * 56 ≤ 140737488355328 := by omega
      have hc := hsub (at_ + 1) (by omega)
      simp at hc hn
      generalize hq : ofF f (l.drop at_) = q at *
      obtain ⟨t, n⟩ := q
      simp only at hc hn e1' hjk
      refine stk_run 400 ?_; simp (maxSteps := 3000000) [↓run.eq_def, ↓aop.eq_def, ↓After.eq_def, ↓Resume.eq_def, ↓EndsV.eq_def, ↓aResults.eq_def, ↓aBuiltin.eq_def, ↓aLen.eq_def, ↓aLoad.eq_def, ↓aPart.eq_def, ↓aStore.eq_def, ↓aFieldAddr.eq_def, ↓aField.eq_def, ↓aOff.eq_def, ↓aAlloc.eq_def, ↓aBox.eq_def, ↓aIndex.eq_def, ↓aIndexAddr.eq_def, ↓aBuild.eq_def, ↓aBuildSlice.eq_def, ↓aAppend.eq_def, ↓aSlice.eq_def, ↓aBound.eq_def, ↓aUn.eq_def, ↓aConvert.eq_def, ↓aExtract.eq_def, ↓aMakeIface.eq_def, ↓aAssert.eq_def, ↓aMaxOp.eq_def, ↓aMax.eq_def, ↓aMakeMap.eq_def, ↓aLookup.eq_def, ↓aMapUpd.eq_def, ↓findA_P, findP.eq_1, findP.eq_2, ↓aBin.eq_def, ↓aIntOp.eq_def, ↓aStrOp.eq_def, ↓aNilEq.eq_def, ↓qrun.eq_def, ↓qop.eq_def, ↓QAfter.eq_def, ↓callOf.eq_def, yieldA, quietOp, newOp, ↓Tr.get.eq_def, ↓Tr.set.eq_def, ↓pickT.eq_def, ↓ofL.eq_def, ↓mkT.eq_def, ↓toL_set, ↓toL_get, toL_map, Tr.map, ↓aAppendAcc.eq_def, ↓aLenAcc.eq_def, hm, hw, hlt, hsl, hs0]
      (have hc_ := hc); (try simp at hc_); refine ACalls.retW hc_ (by (repeat (first | with_reducible exact AV.Wk.refl _ | with_reducible exact WkL.refl _ | with_reducible exact WkLL.refl _ | exact AV.Wk.nil _ | apply AV.Wk.agg | apply AV.Wk.tup | apply AV.Wk.ro | apply WkL.cons | apply WkLL.cons | exact WkL.nil | exact WkLL.nil))) (by simp (maxDischargeDepth := 12)) (by simp (maxDischargeDepth := 12)) ?_; clear hc_; (try simp (maxSteps := 3000000) [↓run.eq_def, ↓aop.eq_def, ↓After.eq_def, ↓Resume.eq_def, ↓EndsV.eq_def, ↓aResults.eq_def, ↓aBuiltin.eq_def, ↓aLen.eq_def, ↓aLoad.eq_def, ↓aPart.eq_def, ↓aStore.eq_def, ↓aFieldAddr.eq_def, ↓aField.eq_def, ↓aOff.eq_def, ↓aAlloc.eq_def, ↓aBox.eq_def, ↓aIndex.eq_def, ↓aIndexAddr.eq_def, ↓aBuild.eq_def, ↓aBuildSlice.eq_def, ↓aAppend.eq_def, ↓aSlice.eq_def, ↓aBound.eq_def, ↓aUn.eq_def, ↓aConvert.eq_def, ↓aExtract.eq_def, ↓aMakeIface.eq_def, ↓aAssert.eq_def, ↓aMaxOp.eq_def, ↓aMax.eq_def, ↓aMakeMap.eq_def, ↓aLookup.eq_def, ↓aMapUpd.eq_def, ↓findA_P, findP.eq_1, findP.eq_2, ↓aBin.eq_def, ↓aIntOp.eq_def, ↓aStrOp.eq_def, ↓aNilEq.eq_def, ↓qrun.eq_def, ↓qop.eq_def, ↓QAfter.eq_def, ↓callOf.eq_def, yieldA, quietOp, newOp, ↓Tr.get.eq_def, ↓Tr.set.eq_def, ↓pickT.eq_def, ↓ofL.eq_def, ↓mkT.eq_def, ↓toL_set, ↓toL_get, toL_map, Tr.map, ↓aAppendAcc.eq_def, ↓aLenAcc.eq_def, hroom])
      (try simp (disch := omega) only [wrap64])
      refine AStk.liveT [0, 2, 4, 5, 6, 7] (AStk.gc [0, 1, 2, 6] (by simp) (by simp) (by simp) ?_); simp [↓run.eq_def, ↓aop.eq_def, ↓After.eq_def, ↓Resume.eq_def, ↓EndsV.eq_def, ↓aResults.eq_def, ↓aBuiltin.eq_def, ↓aLen.eq_def, ↓aLoad.eq_def, ↓aPart.eq_def, ↓aStore.eq_def, ↓aFieldAddr.eq_def, ↓aField.eq_def, ↓aOff.eq_def, ↓aAlloc.eq_def, ↓aBox.eq_def, ↓aIndex.eq_def, ↓aIndexAddr.eq_def, ↓aBuild.eq_def, ↓aBuildSlice.eq_def, ↓aAppend.eq_def, ↓aSlice.eq_def, ↓aBound.eq_def, ↓aUn.eq_def, ↓aConvert.eq_def, ↓aExtract.eq_def, ↓aMakeIface.eq_def, ↓aAssert.eq_def, ↓aMaxOp.eq_def, ↓aMax.eq_def, ↓aMakeMap.eq_def, ↓aLookup.eq_def, ↓aMapUpd.eq_def, ↓findA_P, findP.eq_1, findP.eq_2, ↓aBin.eq_def, ↓aIntOp.eq_def, ↓aStrOp.eq_def, ↓aNilEq.eq_def, ↓qrun.eq_def, ↓qop.eq_def, ↓QAfter.eq_def, ↓callOf.eq_def, yieldA, quietOp, newOp, ↓Tr.get.eq_def, ↓Tr.set.eq_def, ↓pickT.eq_def, ↓ofL.eq_def, ↓mkT.eq_def, ↓toL_set, ↓toL_get, toL_map, Tr.map]
      rw [hjk] at e2
      rw [List.drop_drop] at e1' e2
      exact IH _ _ _ (by simp) ⟨ds ++ [t], at_ + n, j, ⟨by simp [e1'], by omega, by simp; omega⟩, rfl, by simp [↓run.eq_def, ↓aop.eq_def, ↓After.eq_def, ↓Resume.eq_def, ↓EndsV.eq_def, ↓aResults.eq_def, ↓aBuiltin.eq_def, ↓aLen.eq_def, ↓aLoad.eq_def, ↓aPart.eq_def, ↓aStore.eq_def, ↓aFieldAddr.eq_def, ↓aField.eq_def, ↓aOff.eq_def, ↓aAlloc.eq_def, ↓aBox.eq_def, ↓aIndex.eq_def, ↓aIndexAddr.eq_def, ↓aBuild.eq_def, ↓aBuildSlice.eq_def, ↓aAppend.eq_def, ↓aSlice.eq_def, ↓aBound.eq_def, ↓aUn.eq_def, ↓aConvert.eq_def, ↓aExtract.eq_def, ↓aMakeIface.eq_def, ↓aAssert.eq_def, ↓aMaxOp.eq_def, ↓aMax.eq_def, ↓aMakeMap.eq_def, ↓aLookup.eq_def, ↓aMapUpd.eq_def, ↓findA_P, findP.eq_1, findP.eq_2, ↓aBin.eq_def, ↓aIntOp.eq_def, ↓aStrOp.eq_def, ↓aNilEq.eq_def, ↓qrun.eq_def, ↓qop.eq_def, ↓QAfter.eq_def, ↓callOf.eq_def, yieldA, quietOp, newOp, ↓Tr.get.eq_def, ↓Tr.set.eq_def, ↓pickT.eq_def, ↓ofL.eq_def, ↓mkT.eq_def, ↓toL_set, ↓toL_get, toL_map, Tr.map, Int.add_assoc, Int.add_comm, Int.add_left_comm], by simp⟩


def mendF : Tm → Tm
  | ⟨k, n, s, a⟩ => if 20 < s.size then atomA else if k = 1 then ⟨1, max 0 n, ⟨#[]⟩, []⟩ else if k = 2 then ⟨2, n, ⟨#[]⟩, []⟩ else if k = 3 then ⟨3, 0, s, []⟩ else if k = 4 then
      if a = [] then atomA else ⟨4, 0, s, mends a⟩
    else atomA
where mends : List Tm → List Tm
  | [] => []
  | t :: l => mendF t :: mends l

theorem mendF_eq (t : Tm) : mendF t = if 20 < t.s.size then atomA else if t.kind = 1 then ⟨1, max 0 t.n, ⟨#[]⟩, []⟩ else if t.kind = 2 then ⟨2, t.n, ⟨#[]⟩, []⟩ else if t.kind = 3 then ⟨3, 0, t.s, []⟩ else if t.kind = 4 then
      if t.args = [] then atomA else ⟨4, 0, t.s, mendF.mends t.args⟩
    else atomA := by cases t; simp [mendF]
theorem mends_map (l : List Tm) : mendF.mends l = l.map mendF := by induction l <;> simp [mendF.mends, *]

theorem mend_ok (t : Tm) (hk : t.size ≤ 1000000) : ACalls Try.prog 50 [.agg t.enc] [] (fun r _ => r = .ret (.agg (mendF t).enc)) := by
  induction t using Tm.ind with | _ t ih
  have hmem : ∀ u ∈ t.args, ACalls Try.prog 50 [.agg u.enc] [] (fun r _ => r = .ret (.agg (mendF u).enc)) := fun u hu => ih u hu (by have := Tm.size_lt hu; omega)
  have hlen := t.length_lt
  clear ih
  have hm := mendF_eq t
  generalize hR : mendF t = R at *
  clear hR
  refine ACalls.post (calls_tree 400 fn50 (by simp [Try.f50]) ?_); simp (maxSteps := 3000000) [↓run.eq_def, ↓aop.eq_def, ↓After.eq_def, ↓Resume.eq_def, ↓EndsV.eq_def, ↓aResults.eq_def, ↓aBuiltin.eq_def, ↓aLen.eq_def, ↓aLoad.eq_def, ↓aPart.eq_def, ↓aStore.eq_def, ↓aFieldAddr.eq_def, ↓aField.eq_def, ↓aOff.eq_def, ↓aAlloc.eq_def, ↓aBox.eq_def, ↓aIndex.eq_def, ↓aIndexAddr.eq_def, ↓aBuild.eq_def, ↓aBuildSlice.eq_def, ↓aAppend.eq_def, ↓aSlice.eq_def, ↓aBound.eq_def, ↓aUn.eq_def, ↓aConvert.eq_def, ↓aExtract.eq_def, ↓aMakeIface.eq_def, ↓aAssert.eq_def, ↓aMaxOp.eq_def, ↓aMax.eq_def, ↓aMakeMap.eq_def, ↓aLookup.eq_def, ↓aMapUpd.eq_def, ↓findA_P, findP.eq_1, findP.eq_2, ↓aBin.eq_def, ↓aIntOp.eq_def, ↓aStrOp.eq_def, ↓aNilEq.eq_def, ↓qrun.eq_def, ↓qop.eq_def, ↓QAfter.eq_def, ↓callOf.eq_def, yieldA, quietOp, newOp, ↓Tr.get.eq_def, ↓Tr.set.eq_def, ↓pickT.eq_def, ↓ofL.eq_def, ↓mkT.eq_def, ↓toL_set, ↓toL_get, toL_map, Tr.map, ↓aAppendAcc.eq_def, ↓aLenAcc.eq_def, Try.f50]
  split
  · have h20 : 20 < t.s.size := by omega
    simp [h20] at hm; subst hm; (try simp [Tm.enc, atomA]); (first | (refine .done ?_; simp [Tm.enc, atomA]; done) | (refine Tn.wkRet ?_; (repeat (first | with_reducible exact AV.Wk.refl _ | with_reducible exact WkL.refl _ | with_reducible exact WkLL.refl _ | exact AV.Wk.nil _ | apply AV.Wk.agg | apply AV.Wk.tup | apply AV.Wk.ro | apply WkL.cons | apply WkLL.cons | exact WkL.nil | exact WkLL.nil))))
  have h20 : ¬ 20 < t.s.size := by omega
  split
  · rename_i k1; simp [h20, k1] at hm; subst hm
    have hmx : (if 0 < t.n then t.n else 0) = max 0 t.n := by split <;> omega
    (try simp [Tm.enc, hmx]); (first | (refine .done ?_; simp [Tm.enc, hmx]; done) | (refine Tn.wkRet ?_; (repeat (first | with_reducible exact AV.Wk.refl _ | with_reducible exact WkL.refl _ | with_reducible exact WkLL.refl _ | exact AV.Wk.nil _ | apply AV.Wk.agg | apply AV.Wk.tup | apply AV.Wk.ro | apply WkL.cons | apply WkLL.cons | exact WkL.nil | exact WkLL.nil))))
  split
  · rename_i k1 k2; simp [h20, k2] at hm; subst hm; (try simp [Tm.enc]); (first | (refine .done ?_; simp [Tm.enc]; done) | (refine Tn.wkRet ?_; (repeat (first | with_reducible exact AV.Wk.refl _ | with_reducible exact WkL.refl _ | with_reducible exact WkLL.refl _ | exact AV.Wk.nil _ | apply AV.Wk.agg | apply AV.Wk.tup | apply AV.Wk.ro | apply WkL.cons | apply WkLL.cons | exact WkL.nil | exact WkLL.nil))))
  split
  · rename_i k1 k2 k3; simp [h20, k3] at hm; subst hm; (try simp [Tm.enc]); (first | (refine .done ?_; simp [Tm.enc]; done) | (refine Tn.wkRet ?_; (repeat (first | with_reducible exact AV.Wk.refl _ | with_reducible exact WkL.refl _ | with_reducible exact WkLL.refl _ | exact AV.Wk.nil _ | apply AV.Wk.agg | apply AV.Wk.tup | apply AV.Wk.ro | apply WkL.cons | apply WkLL.cons | exact WkL.nil | exact WkLL.nil))))
  split
  · rename_i k1 k2 k3 k4; simp [h20, k4] at hm
    split
    · rename_i ha; simp [ha] at hm; subst hm; (try simp [Tm.enc, atomA]); (first | (refine .done ?_; simp [Tm.enc, atomA]; done) | (refine Tn.wkRet ?_; (repeat (first | with_reducible exact AV.Wk.refl _ | with_reducible exact WkL.refl _ | with_reducible exact WkLL.refl _ | exact AV.Wk.nil _ | apply AV.Wk.agg | apply AV.Wk.tup | apply AV.Wk.ro | apply WkL.cons | apply WkLL.cons | exact WkL.nil | exact WkLL.nil))))
    rename_i ha
    simp [ha, mends_map] at hm
    generalize hargs : t.args = args at *
    refine AStk.pad ?_
    refine AStk.liveT [2, 4, 42, 43, 44] (AStk.gc [1, 3, 4] (by simp) (by simp) (by simp) ?_); simp [↓run.eq_def, ↓aop.eq_def, ↓After.eq_def, ↓Resume.eq_def, ↓EndsV.eq_def, ↓aResults.eq_def, ↓aBuiltin.eq_def, ↓aLen.eq_def, ↓aLoad.eq_def, ↓aPart.eq_def, ↓aStore.eq_def, ↓aFieldAddr.eq_def, ↓aField.eq_def, ↓aOff.eq_def, ↓aAlloc.eq_def, ↓aBox.eq_def, ↓aIndex.eq_def, ↓aIndexAddr.eq_def, ↓aBuild.eq_def, ↓aBuildSlice.eq_def, ↓aAppend.eq_def, ↓aSlice.eq_def, ↓aBound.eq_def, ↓aUn.eq_def, ↓aConvert.eq_def, ↓aExtract.eq_def, ↓aMakeIface.eq_def, ↓aAssert.eq_def, ↓aMaxOp.eq_def, ↓aMax.eq_def, ↓aMakeMap.eq_def, ↓aLookup.eq_def, ↓aMapUpd.eq_def, ↓findA_P, findP.eq_1, findP.eq_2, ↓aBin.eq_def, ↓aIntOp.eq_def, ↓aStrOp.eq_def, ↓aNilEq.eq_def, ↓qrun.eq_def, ↓qop.eq_def, ↓QAfter.eq_def, ↓callOf.eq_def, yieldA, quietOp, newOp, ↓Tr.get.eq_def, ↓Tr.set.eq_def, ↓pickT.eq_def, ↓ofL.eq_def, ↓mkT.eq_def, ↓toL_set, ↓toL_get, toL_map, Tr.map]
    refine AStk.indE (fun d_ a_ h_ => ∃ (ds es : List Tm), (args = ds ++ es) ∧ d_ = es.length ∧ a_ = ⟨toL 58 (mkT [(2, .ptr 0 0), (4, .ptr 1 0), (42, .ro 4 (encs args)), (43, .int .i64 args.length), (44, .int .i64 ds.length)] (.e .any)), []⟩ ∧ h_ = [.var [.int .i64 0, .int .i64 0, .str ⟨#[]⟩, .nils], .var [.int .i64 4, .int .i64 0, .str t.s, accS 4 2 (encs (ds.map mendF))], accB 4 (encs (ds.map mendF))]) ?_ ?_
    · exact ⟨_, [], args, rfl, rfl, by simp [↓run.eq_def, ↓aop.eq_def, ↓After.eq_def, ↓Resume.eq_def, ↓EndsV.eq_def, ↓aResults.eq_def, ↓aBuiltin.eq_def, ↓aLen.eq_def, ↓aLoad.eq_def, ↓aPart.eq_def, ↓aStore.eq_def, ↓aFieldAddr.eq_def, ↓aField.eq_def, ↓aOff.eq_def, ↓aAlloc.eq_def, ↓aBox.eq_def, ↓aIndex.eq_def, ↓aIndexAddr.eq_def, ↓aBuild.eq_def, ↓aBuildSlice.eq_def, ↓aAppend.eq_def, ↓aSlice.eq_def, ↓aBound.eq_def, ↓aUn.eq_def, ↓aConvert.eq_def, ↓aExtract.eq_def, ↓aMakeIface.eq_def, ↓aAssert.eq_def, ↓aMaxOp.eq_def, ↓aMax.eq_def, ↓aMakeMap.eq_def, ↓aLookup.eq_def, ↓aMapUpd.eq_def, ↓findA_P, findP.eq_1, findP.eq_2, ↓aBin.eq_def, ↓aIntOp.eq_def, ↓aStrOp.eq_def, ↓aNilEq.eq_def, ↓qrun.eq_def, ↓qop.eq_def, ↓QAfter.eq_def, ↓callOf.eq_def, yieldA, quietOp, newOp, ↓Tr.get.eq_def, ↓Tr.set.eq_def, ↓pickT.eq_def, ↓ofL.eq_def, ↓mkT.eq_def, ↓toL_set, ↓toL_get, toL_map, Tr.map], by simp⟩
    rintro d a h ⟨ds, es, hsp, rfl, rfl, rfl⟩ IH
    cases es with
    | nil =>
      simp at hsp; subst hsp
      refine stk_run 400 ?_; simp (maxSteps := 3000000) [↓run.eq_def, ↓aop.eq_def, ↓After.eq_def, ↓Resume.eq_def, ↓EndsV.eq_def, ↓aResults.eq_def, ↓aBuiltin.eq_def, ↓aLen.eq_def, ↓aLoad.eq_def, ↓aPart.eq_def, ↓aStore.eq_def, ↓aFieldAddr.eq_def, ↓aField.eq_def, ↓aOff.eq_def, ↓aAlloc.eq_def, ↓aBox.eq_def, ↓aIndex.eq_def, ↓aIndexAddr.eq_def, ↓aBuild.eq_def, ↓aBuildSlice.eq_def, ↓aAppend.eq_def, ↓aSlice.eq_def, ↓aBound.eq_def, ↓aUn.eq_def, ↓aConvert.eq_def, ↓aExtract.eq_def, ↓aMakeIface.eq_def, ↓aAssert.eq_def, ↓aMaxOp.eq_def, ↓aMax.eq_def, ↓aMakeMap.eq_def, ↓aLookup.eq_def, ↓aMapUpd.eq_def, ↓findA_P, findP.eq_1, findP.eq_2, ↓aBin.eq_def, ↓aIntOp.eq_def, ↓aStrOp.eq_def, ↓aNilEq.eq_def, ↓qrun.eq_def, ↓qop.eq_def, ↓QAfter.eq_def, ↓callOf.eq_def, yieldA, quietOp, newOp, ↓Tr.get.eq_def, ↓Tr.set.eq_def, ↓pickT.eq_def, ↓ofL.eq_def, ↓mkT.eq_def, ↓toL_set, ↓toL_get, toL_map, Tr.map, ↓aAppendAcc.eq_def, ↓aLenAcc.eq_def]
      subst hm
      rcases args with _ | ⟨a0, args⟩
      · exact absurd rfl ha
      · simp
        refine .fz 2 rfl ?_; simp
        (try simp [Tm.enc, List.take_of_length_le]); (first | (refine .done ?_; simp [Tm.enc, List.take_of_length_le]; done) | (refine Tn.wkRet ?_; (repeat (first | with_reducible exact AV.Wk.refl _ | with_reducible exact WkL.refl _ | with_reducible exact WkLL.refl _ | exact AV.Wk.nil _ | apply AV.Wk.agg | apply AV.Wk.tup | apply AV.Wk.ro | apply WkL.cons | apply WkLL.cons | exact WkL.nil | exact WkLL.nil))))
    | cons u es =>
      obtain ⟨p1, p2, p3, p4, p5⟩ := mid_facts hsp
      have hroom : (ds.length + 1) * 56 ≤ 140737488355328 := by omega
      refine stk_run 400 ?_; simp (maxSteps := 3000000) [↓run.eq_def, ↓aop.eq_def, ↓After.eq_def, ↓Resume.eq_def, ↓EndsV.eq_def, ↓aResults.eq_def, ↓aBuiltin.eq_def, ↓aLen.eq_def, ↓aLoad.eq_def, ↓aPart.eq_def, ↓aStore.eq_def, ↓aFieldAddr.eq_def, ↓aField.eq_def, ↓aOff.eq_def, ↓aAlloc.eq_def, ↓aBox.eq_def, ↓aIndex.eq_def, ↓aIndexAddr.eq_def, ↓aBuild.eq_def, ↓aBuildSlice.eq_def, ↓aAppend.eq_def, ↓aSlice.eq_def, ↓aBound.eq_def, ↓aUn.eq_def, ↓aConvert.eq_def, ↓aExtract.eq_def, ↓aMakeIface.eq_def, ↓aAssert.eq_def, ↓aMaxOp.eq_def, ↓aMax.eq_def, ↓aMakeMap.eq_def, ↓aLookup.eq_def, ↓aMapUpd.eq_def, ↓findA_P, findP.eq_1, findP.eq_2, ↓aBin.eq_def, ↓aIntOp.eq_def, ↓aStrOp.eq_def, ↓aNilEq.eq_def, ↓qrun.eq_def, ↓qop.eq_def, ↓QAfter.eq_def, ↓callOf.eq_def, yieldA, quietOp, newOp, ↓Tr.get.eq_def, ↓Tr.set.eq_def, ↓pickT.eq_def, ↓ofL.eq_def, ↓mkT.eq_def, ↓toL_set, ↓toL_get, toL_map, Tr.map, ↓aAppendAcc.eq_def, ↓aLenAcc.eq_def, p2, p3, p4]
      refine stk_draw mixed (tabOf_ok _) (fnOf_ok _) 5 (by kernel_rfl) ?_; simp (maxSteps := 3000000) [↓run.eq_def, ↓aop.eq_def, ↓After.eq_def, ↓Resume.eq_def, ↓EndsV.eq_def, ↓aResults.eq_def, ↓aBuiltin.eq_def, ↓aLen.eq_def, ↓aLoad.eq_def, ↓aPart.eq_def, ↓aStore.eq_def, ↓aFieldAddr.eq_def, ↓aField.eq_def, ↓aOff.eq_def, ↓aAlloc.eq_def, ↓aBox.eq_def, ↓aIndex.eq_def, ↓aIndexAddr.eq_def, ↓aBuild.eq_def, ↓aBuildSlice.eq_def, ↓aAppend.eq_def, ↓aSlice.eq_def, ↓aBound.eq_def, ↓aUn.eq_def, ↓aConvert.eq_def, ↓aExtract.eq_def, ↓aMakeIface.eq_def, ↓aAssert.eq_def, ↓aMaxOp.eq_def, ↓aMax.eq_def, ↓aMakeMap.eq_def, ↓aLookup.eq_def, ↓aMapUpd.eq_def, ↓findA_P, findP.eq_1, findP.eq_2, ↓aBin.eq_def, ↓aIntOp.eq_def, ↓aStrOp.eq_def, ↓aNilEq.eq_def, ↓qrun.eq_def, ↓qop.eq_def, ↓QAfter.eq_def, ↓callOf.eq_def, yieldA, quietOp, newOp, ↓Tr.get.eq_def, ↓Tr.set.eq_def, ↓pickT.eq_def, ↓ofL.eq_def, ↓mkT.eq_def, ↓toL_set, ↓toL_get, toL_map, Tr.map, ↓aAppendAcc.eq_def, ↓aLenAcc.eq_def]
      (have hc_ := hmem u (by simp [hsp])); (try simp at hc_); refine QCall.introW hc_ (by (repeat (first | with_reducible exact AV.Wk.refl _ | with_reducible exact WkL.refl _ | with_reducible exact WkLL.refl _ | exact AV.Wk.nil _ | apply AV.Wk.agg | apply AV.Wk.tup | apply AV.Wk.ro | apply WkL.cons | apply WkLL.cons | exact WkL.nil | exact WkLL.nil))) (by simp (maxDischargeDepth := 12)) (by simp (maxDischargeDepth := 12)) ?_; clear hc_; (try simp (maxSteps := 3000000) [↓run.eq_def, ↓aop.eq_def, ↓After.eq_def, ↓Resume.eq_def, ↓EndsV.eq_def, ↓aResults.eq_def, ↓aBuiltin.eq_def, ↓aLen.eq_def, ↓aLoad.eq_def, ↓aPart.eq_def, ↓aStore.eq_def, ↓aFieldAddr.eq_def, ↓aField.eq_def, ↓aOff.eq_def, ↓aAlloc.eq_def, ↓aBox.eq_def, ↓aIndex.eq_def, ↓aIndexAddr.eq_def, ↓aBuild.eq_def, ↓aBuildSlice.eq_def, ↓aAppend.eq_def, ↓aSlice.eq_def, ↓aBound.eq_def, ↓aUn.eq_def, ↓aConvert.eq_def, ↓aExtract.eq_def, ↓aMakeIface.eq_def, ↓aAssert.eq_def, ↓aMaxOp.eq_def, ↓aMax.eq_def, ↓aMakeMap.eq_def, ↓aLookup.eq_def, ↓aMapUpd.eq_def, ↓findA_P, findP.eq_1, findP.eq_2, ↓aBin.eq_def, ↓aIntOp.eq_def, ↓aStrOp.eq_def, ↓aNilEq.eq_def, ↓qrun.eq_def, ↓qop.eq_def, ↓QAfter.eq_def, ↓callOf.eq_def, yieldA, quietOp, newOp, ↓Tr.get.eq_def, ↓Tr.set.eq_def, ↓pickT.eq_def, ↓ofL.eq_def, ↓mkT.eq_def, ↓toL_set, ↓toL_get, toL_map, Tr.map, ↓aAppendAcc.eq_def, ↓aLenAcc.eq_def, hroom])
      refine stk_run 400 ?_; simp (maxSteps := 3000000) [↓run.eq_def, ↓aop.eq_def, ↓After.eq_def, ↓Resume.eq_def, ↓EndsV.eq_def, ↓aResults.eq_def, ↓aBuiltin.eq_def, ↓aLen.eq_def, ↓aLoad.eq_def, ↓aPart.eq_def, ↓aStore.eq_def, ↓aFieldAddr.eq_def, ↓aField.eq_def, ↓aOff.eq_def, ↓aAlloc.eq_def, ↓aBox.eq_def, ↓aIndex.eq_def, ↓aIndexAddr.eq_def, ↓aBuild.eq_def, ↓aBuildSlice.eq_def, ↓aAppend.eq_def, ↓aSlice.eq_def, ↓aBound.eq_def, ↓aUn.eq_def, ↓aConvert.eq_def, ↓aExtract.eq_def, ↓aMakeIface.eq_def, ↓aAssert.eq_def, ↓aMaxOp.eq_def, ↓aMax.eq_def, ↓aMakeMap.eq_def, ↓aLookup.eq_def, ↓aMapUpd.eq_def, ↓findA_P, findP.eq_1, findP.eq_2, ↓aBin.eq_def, ↓aIntOp.eq_def, ↓aStrOp.eq_def, ↓aNilEq.eq_def, ↓qrun.eq_def, ↓qop.eq_def, ↓QAfter.eq_def, ↓callOf.eq_def, yieldA, quietOp, newOp, ↓Tr.get.eq_def, ↓Tr.set.eq_def, ↓pickT.eq_def, ↓ofL.eq_def, ↓mkT.eq_def, ↓toL_set, ↓toL_get, toL_map, Tr.map, ↓aAppendAcc.eq_def, ↓aLenAcc.eq_def, hroom]
      (try simp (disch := omega) only [wrap64])
      refine AStk.liveT [2, 4, 42, 43, 44] (AStk.gc [0, 1, 4] (by simp) (by simp) (by simp) ?_); simp [↓run.eq_def, ↓aop.eq_def, ↓After.eq_def, ↓Resume.eq_def, ↓EndsV.eq_def, ↓aResults.eq_def, ↓aBuiltin.eq_def, ↓aLen.eq_def, ↓aLoad.eq_def, ↓aPart.eq_def, ↓aStore.eq_def, ↓aFieldAddr.eq_def, ↓aField.eq_def, ↓aOff.eq_def, ↓aAlloc.eq_def, ↓aBox.eq_def, ↓aIndex.eq_def, ↓aIndexAddr.eq_def, ↓aBuild.eq_def, ↓aBuildSlice.eq_def, ↓aAppend.eq_def, ↓aSlice.eq_def, ↓aBound.eq_def, ↓aUn.eq_def, ↓aConvert.eq_def, ↓aExtract.eq_def, ↓aMakeIface.eq_def, ↓aAssert.eq_def, ↓aMaxOp.eq_def, ↓aMax.eq_def, ↓aMakeMap.eq_def, ↓aLookup.eq_def, ↓aMapUpd.eq_def, ↓findA_P, findP.eq_1, findP.eq_2, ↓aBin.eq_def, ↓aIntOp.eq_def, ↓aStrOp.eq_def, ↓aNilEq.eq_def, ↓qrun.eq_def, ↓qop.eq_def, ↓QAfter.eq_def, ↓callOf.eq_def, yieldA, quietOp, newOp, ↓Tr.get.eq_def, ↓Tr.set.eq_def, ↓pickT.eq_def, ↓ofL.eq_def, ↓mkT.eq_def, ↓toL_set, ↓toL_get, toL_map, Tr.map]
      exact IH _ _ _ (by simp) ⟨ds ++ [u], es, by simp [hsp], rfl, by simp [↓run.eq_def, ↓aop.eq_def, ↓After.eq_def, ↓Resume.eq_def, ↓EndsV.eq_def, ↓aResults.eq_def, ↓aBuiltin.eq_def, ↓aLen.eq_def, ↓aLoad.eq_def, ↓aPart.eq_def, ↓aStore.eq_def, ↓aFieldAddr.eq_def, ↓aField.eq_def, ↓aOff.eq_def, ↓aAlloc.eq_def, ↓aBox.eq_def, ↓aIndex.eq_def, ↓aIndexAddr.eq_def, ↓aBuild.eq_def, ↓aBuildSlice.eq_def, ↓aAppend.eq_def, ↓aSlice.eq_def, ↓aBound.eq_def, ↓aUn.eq_def, ↓aConvert.eq_def, ↓aExtract.eq_def, ↓aMakeIface.eq_def, ↓aAssert.eq_def, ↓aMaxOp.eq_def, ↓aMax.eq_def, ↓aMakeMap.eq_def, ↓aLookup.eq_def, ↓aMapUpd.eq_def, ↓findA_P, findP.eq_1, findP.eq_2, ↓aBin.eq_def, ↓aIntOp.eq_def, ↓aStrOp.eq_def, ↓aNilEq.eq_def, ↓qrun.eq_def, ↓qop.eq_def, ↓QAfter.eq_def, ↓callOf.eq_def, yieldA, quietOp, newOp, ↓Tr.get.eq_def, ↓Tr.set.eq_def, ↓pickT.eq_def, ↓ofL.eq_def, ↓mkT.eq_def, ↓toL_set, ↓toL_get, toL_map, Tr.map, Int.add_assoc, Int.add_comm, Int.add_left_comm], by simp⟩
  · rename_i k1 k2 k3 k4; simp [h20, k1, k2, k3, k4] at hm; subst hm; (try simp [Tm.enc, atomA]); (first | (refine .done ?_; simp [Tm.enc, atomA]; done) | (refine Tn.wkRet ?_; (repeat (first | with_reducible exact AV.Wk.refl _ | with_reducible exact WkL.refl _ | with_reducible exact WkLL.refl _ | exact AV.Wk.nil _ | apply AV.Wk.agg | apply AV.Wk.tup | apply AV.Wk.ro | apply WkL.cons | apply WkLL.cons | exact WkL.nil | exact WkLL.nil))))

def goodT (l : List Pt) : Tm := mendF (ofF (l.length + 1) l).1

theorem good_ok (l : List Pt) (h60 : l.length ≤ 60) (hb : ∀ p ∈ l, 0 ≤ p.args ∧ p.args ≤ 255) : ACalls Try.prog 17 [.ro 4 (encP l)] [] (fun r _ => r = .ret (.agg (goodT l).enc)) := by
  have h1 := of_ok (l.length + 1) l (by omega) h60 hb
  have h2 := ofF_size (l.length + 1) l
  have h3 := ofF_le (l.length + 1) l
  generalize hR : goodT l = R
  unfold goodT at hR
  generalize ofF (l.length + 1) l = q at *
  obtain ⟨t, n⟩ := q
  simp only at h1 h2 h3 hR
  refine ACalls.post (calls_tree 400 fn17 (by simp [Try.f17]) ?_); simp (maxSteps := 3000000) [↓run.eq_def, ↓aop.eq_def, ↓After.eq_def, ↓Resume.eq_def, ↓EndsV.eq_def, ↓aResults.eq_def, ↓aBuiltin.eq_def, ↓aLen.eq_def, ↓aLoad.eq_def, ↓aPart.eq_def, ↓aStore.eq_def, ↓aFieldAddr.eq_def, ↓aField.eq_def, ↓aOff.eq_def, ↓aAlloc.eq_def, ↓aBox.eq_def, ↓aIndex.eq_def, ↓aIndexAddr.eq_def, ↓aBuild.eq_def, ↓aBuildSlice.eq_def, ↓aAppend.eq_def, ↓aSlice.eq_def, ↓aBound.eq_def, ↓aUn.eq_def, ↓aConvert.eq_def, ↓aExtract.eq_def, ↓aMakeIface.eq_def, ↓aAssert.eq_def, ↓aMaxOp.eq_def, ↓aMax.eq_def, ↓aMakeMap.eq_def, ↓aLookup.eq_def, ↓aMapUpd.eq_def, ↓findA_P, findP.eq_1, findP.eq_2, ↓aBin.eq_def, ↓aIntOp.eq_def, ↓aStrOp.eq_def, ↓aNilEq.eq_def, ↓qrun.eq_def, ↓qop.eq_def, ↓QAfter.eq_def, ↓callOf.eq_def, yieldA, quietOp, newOp, ↓Tr.get.eq_def, ↓Tr.set.eq_def, ↓pickT.eq_def, ↓ofL.eq_def, ↓mkT.eq_def, ↓toL_set, ↓toL_get, toL_map, Tr.map, ↓aAppendAcc.eq_def, ↓aLenAcc.eq_def, Try.f17]
  (have hc_ := h1); (try simp at hc_); refine ACalls.retW hc_ (by (repeat (first | with_reducible exact AV.Wk.refl _ | with_reducible exact WkL.refl _ | with_reducible exact WkLL.refl _ | exact AV.Wk.nil _ | apply AV.Wk.agg | apply AV.Wk.tup | apply AV.Wk.ro | apply WkL.cons | apply WkLL.cons | exact WkL.nil | exact WkLL.nil))) (by simp (maxDischargeDepth := 12)) (by simp (maxDischargeDepth := 12)) ?_; clear hc_; (try simp (maxSteps := 3000000) [↓run.eq_def, ↓aop.eq_def, ↓After.eq_def, ↓Resume.eq_def, ↓EndsV.eq_def, ↓aResults.eq_def, ↓aBuiltin.eq_def, ↓aLen.eq_def, ↓aLoad.eq_def, ↓aPart.eq_def, ↓aStore.eq_def, ↓aFieldAddr.eq_def, ↓aField.eq_def, ↓aOff.eq_def, ↓aAlloc.eq_def, ↓aBox.eq_def, ↓aIndex.eq_def, ↓aIndexAddr.eq_def, ↓aBuild.eq_def, ↓aBuildSlice.eq_def, ↓aAppend.eq_def, ↓aSlice.eq_def, ↓aBound.eq_def, ↓aUn.eq_def, ↓aConvert.eq_def, ↓aExtract.eq_def, ↓aMakeIface.eq_def, ↓aAssert.eq_def, ↓aMaxOp.eq_def, ↓aMax.eq_def, ↓aMakeMap.eq_def, ↓aLookup.eq_def, ↓aMapUpd.eq_def, ↓findA_P, findP.eq_1, findP.eq_2, ↓aBin.eq_def, ↓aIntOp.eq_def, ↓aStrOp.eq_def, ↓aNilEq.eq_def, ↓qrun.eq_def, ↓qop.eq_def, ↓QAfter.eq_def, ↓callOf.eq_def, yieldA, quietOp, newOp, ↓Tr.get.eq_def, ↓Tr.set.eq_def, ↓pickT.eq_def, ↓ofL.eq_def, ↓mkT.eq_def, ↓toL_set, ↓toL_get, toL_map, Tr.map, ↓aAppendAcc.eq_def, ↓aLenAcc.eq_def])
  (have hc_ := mend_ok t (by omega)); (try simp at hc_); refine ACalls.retW hc_ (by (repeat (first | with_reducible exact AV.Wk.refl _ | with_reducible exact WkL.refl _ | with_reducible exact WkLL.refl _ | exact AV.Wk.nil _ | apply AV.Wk.agg | apply AV.Wk.tup | apply AV.Wk.ro | apply WkL.cons | apply WkLL.cons | exact WkL.nil | exact WkLL.nil))) (by simp (maxDischargeDepth := 12)) (by simp (maxDischargeDepth := 12)) ?_; clear hc_; (try simp (maxSteps := 3000000) [↓run.eq_def, ↓aop.eq_def, ↓After.eq_def, ↓Resume.eq_def, ↓EndsV.eq_def, ↓aResults.eq_def, ↓aBuiltin.eq_def, ↓aLen.eq_def, ↓aLoad.eq_def, ↓aPart.eq_def, ↓aStore.eq_def, ↓aFieldAddr.eq_def, ↓aField.eq_def, ↓aOff.eq_def, ↓aAlloc.eq_def, ↓aBox.eq_def, ↓aIndex.eq_def, ↓aIndexAddr.eq_def, ↓aBuild.eq_def, ↓aBuildSlice.eq_def, ↓aAppend.eq_def, ↓aSlice.eq_def, ↓aBound.eq_def, ↓aUn.eq_def, ↓aConvert.eq_def, ↓aExtract.eq_def, ↓aMakeIface.eq_def, ↓aAssert.eq_def, ↓aMaxOp.eq_def, ↓aMax.eq_def, ↓aMakeMap.eq_def, ↓aLookup.eq_def, ↓aMapUpd.eq_def, ↓findA_P, findP.eq_1, findP.eq_2, ↓aBin.eq_def, ↓aIntOp.eq_def, ↓aStrOp.eq_def, ↓aNilEq.eq_def, ↓qrun.eq_def, ↓qop.eq_def, ↓QAfter.eq_def, ↓callOf.eq_def, yieldA, quietOp, newOp, ↓Tr.get.eq_def, ↓Tr.set.eq_def, ↓pickT.eq_def, ↓ofL.eq_def, ↓mkT.eq_def, ↓toL_set, ↓toL_get, toL_map, Tr.map, ↓aAppendAcc.eq_def, ↓aLenAcc.eq_def])
  subst hR
  (try simp [Tm.enc]); (first | (refine .done ?_; simp [Tm.enc]; done) | (refine Tn.wkRet ?_; (repeat (first | with_reducible exact AV.Wk.refl _ | with_reducible exact WkL.refl _ | with_reducible exact WkLL.refl _ | exact AV.Wk.nil _ | apply AV.Wk.agg | apply AV.Wk.tup | apply AV.Wk.ro | apply WkL.cons | apply WkLL.cons | exact WkL.nil | exact WkLL.nil))))

/-- The same in plain words. -/
inductive Fine : Tm → Prop
  | var (n : Int) (h : 0 ≤ n) : Fine ⟨1, n, ⟨#[]⟩, []⟩
  | int (n : Int) : Fine ⟨2, n, ⟨#[]⟩, []⟩
  | atom (s : ByteArray) (h : s.size ≤ 20) : Fine ⟨3, 0, s, []⟩
  | comp (s : ByteArray) (h : s.size ≤ 20) (l : List Tm) (hl : l ≠ []) (hs : ∀ t ∈ l, Fine t) : Fine ⟨4, 0, s, l⟩

theorem mendF_fine (t : Tm) : Fine (mendF t) := by
  induction t using Tm.ind with | _ t ih
  have ha : Fine atomA := .atom _ (by decide)
  rw [mendF_eq]
  split
  · exact ha
  split
  · exact .var _ (by omega)
  split
  · exact .int _
  split
  · exact .atom _ (by omega)
  split
  · split
    · exact ha
    · rename_i hne
      refine .comp _ (by omega) _ (by simpa [mends_map] using hne) fun u hu => ?_
      rw [mends_map, List.mem_map] at hu
      obtain ⟨v, hv, rfl⟩ := hu
      exact ih v hv
  · exact ha

theorem mendF_size (t : Tm) : (mendF t).size ≤ t.size := by
  induction t using Tm.ind with | _ t ih
  have ha : atomA.size = 1 := by simp [atomA, Tm.size_eq]
  have hp := t.size_pos
  have hl : ∀ l : List Tm, (∀ u ∈ l, (mendF u).size ≤ u.size) → sizes (l.map mendF) ≤ sizes l := by
    intro l hl
    induction l with
    | nil => simp
    | cons u l ihl => have := hl u (by simp); have := ihl (fun v hv => hl v (by simp [hv])); simp; omega
  rw [mendF_eq]
  (repeat' split) <;> (try simp [Tm.size_eq, ha]) <;> (try (simp [atomA]; done)) <;> (try omega)
  · rw [mends_map]; exact hl t.args ih

theorem goodT_size (l : List Pt) (h60 : l.length ≤ 60) : (goodT l).size ≤ 421 := by
  have h2 := ofF_size (l.length + 1) l
  have h3 := ofF_le (l.length + 1) l
  have := mendF_size (ofF (l.length + 1) l).1
  unfold goodT; omega

theorem goodT_fine (l : List Pt) : Fine (goodT l) := mendF_fine _

end Go.Proofs.Yteebkkipeiggcaa
