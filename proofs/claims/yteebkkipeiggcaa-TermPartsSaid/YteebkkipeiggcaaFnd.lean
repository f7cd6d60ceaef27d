/- Contracts: numbers found, in the order in which they were found. -/
import Derived.Test.YteebkkipeiggcaaAll
set_option linter.unusedVariables false
set_option linter.unusedSimpArgs false
namespace Go.Vm
open Go
/-- The entries of a map from numbers to their places. -/
def entsF : List Int → Nat → List (AV × AV × Nat)
  | [], _ => []
  | n :: l, i => (.int .i64 n, .int .i64 i, i) :: entsF l (i + 1)
@[simp] theorem entsF_length : ∀ (l : List Int) (i : Nat), (entsF l i).length = l.length
  | [], _ => rfl
  | n :: l, i => by simp [entsF, entsF_length l]
@[simp] theorem entsF_nil (i : Nat) : entsF [] i = [] := rfl
@[simp] theorem entsF_snoc : ∀ (l : List Int) (n : Int) (i : Nat), entsF (l ++ [n]) i = entsF l i ++ [(.int .i64 n, .int .i64 ((i + l.length : Nat) : Int), i + l.length)]
  | [], n, i => by simp [entsF]
  | m :: l, n, i => by simp [entsF, entsF_snoc l n, Nat.add_assoc, Nat.add_comm 1]
@[simp] theorem entsF_sub (f : Nat → Sb) : ∀ (l : List Int) (i : Nat), (entsF l i).map (fun p => (p.1.sub f, p.2.1.sub f, p.2.2)) = entsF l i
  | [], _ => rfl
  | n :: l, i => by simp [entsF, entsF_sub f l]

@[simp high] theorem findP_old {n : Int} : ∀ (l : List Int) (o i : Nat) (_ : n ∈ l), findP (.int .i64) (.int .i64 n) (entsF l o) i = some (some (i + l.idxOf n, .int .i64 ((o + l.idxOf n : Nat) : Int)))
  | m :: l, o, i, h => by
    by_cases hm : n = m
    · subst hm; simp [entsF, findP, keyEq]
    · have h' : n ∈ l := by simpa [hm] using h
      have hm' : (m == n) = false := by simpa using fun e => hm e.symm
      simp only [entsF, findP, keyEq, if_true, beq_eq_false_iff_ne.2 hm, Bool.false_eq_true, if_false]
      rw [findP_old l (o + 1) (i + 1) h', List.idxOf_cons]
      simp [hm', Nat.add_assoc, Nat.add_comm 1, Int.add_assoc, Int.add_comm 1]
@[simp high] theorem findP_new {n : Int} : ∀ (l : List Int) (o i : Nat) (_ : n ∉ l), findP (.int .i64) (.int .i64 n) (entsF l o) i = some none
  | [], o, i, h => by simp [entsF, findP]
  | m :: l, o, i, h => by
    have hm : n ≠ m := fun e => h (by simp [e])
    have h' : n ∉ l := fun e => h (by simp [e])
    simp only [entsF, findP, keyEq, if_true, beq_eq_false_iff_ne.2 hm, Bool.false_eq_true, if_false]
    exact findP_new l (o + 1) (i + 1) h'
end Go.Vm
namespace Go.Proofs.Yteebkkipeiggcaa
open Go Go.Vm

set_option maxRecDepth 20000
set_option maxHeartbeats 400000

/-- What 'found' holds: numbers, and where each is. -/
abbrev fndH (vs : List Int) : AH := [.var [accS 1 2 (encI vs), .map 1], .map (entsF vs 0) vs.length, accB 1 (encI vs)]
abbrev fndS (vs : List Int) : AH := [.var [accS 1 2 (encI vs), .map 1], .map (entsF vs 0) vs.length, accB 1 (encI vs), .dead]
abbrev fndT (vs : List Int) : AH := [.var [accS 1 3 (encI vs), .map 1], .map (entsF vs 0) vs.length, .dead, accB 1 (encI vs)]

theorem find_old (vs : List Int) (n : Int) (hn : n ∈ vs) : ACalls Try.prog 68 [.ptr 0 0, .int .i64 n] (fndH vs) (fun r h => r = .ret (.int .i64 (vs.idxOf n)) ∧ h = fndH vs) := by
  refine ACalls.gc [] (by simp) (ACalls.post (calls_tree 400 fn68 (by simp [Try.f68]) ?_)); simp (maxSteps := 3000000) [↓run.eq_def, ↓aop.eq_def, ↓After.eq_def, ↓Resume.eq_def, ↓EndsV.eq_def, ↓aResults.eq_def, ↓aBuiltin.eq_def, ↓aLen.eq_def, ↓aLoad.eq_def, ↓aPart.eq_def, ↓aStore.eq_def, ↓aFieldAddr.eq_def, ↓aField.eq_def, ↓aOff.eq_def, ↓aAlloc.eq_def, ↓aBox.eq_def, ↓aIndex.eq_def, ↓aIndexAddr.eq_def, ↓aBuild.eq_def, ↓aBuildSlice.eq_def, ↓aAppend.eq_def, ↓aSlice.eq_def, ↓aBound.eq_def, ↓aUn.eq_def, ↓aConvert.eq_def, ↓aExtract.eq_def, ↓aMakeIface.eq_def, ↓aAssert.eq_def, ↓aMaxOp.eq_def, ↓aMax.eq_def, ↓aMakeMap.eq_def, ↓aLookup.eq_def, ↓aMapUpd.eq_def, ↓findA_P, findP.eq_1, findP.eq_2, ↓aBin.eq_def, ↓aIntOp.eq_def, ↓aStrOp.eq_def, ↓aNilEq.eq_def, ↓qrun.eq_def, ↓qop.eq_def, ↓QAfter.eq_def, ↓callOf.eq_def, yieldA, quietOp, newOp, ↓Tr.get.eq_def, ↓Tr.set.eq_def, ↓pickT.eq_def, ↓ofL.eq_def, ↓mkT.eq_def, ↓toL_set, ↓toL_get, toL_map, Tr.map, ↓aAppendAcc.eq_def, ↓aLenAcc.eq_def, Try.f68, hn]
  (try simp [Tm.enc]); (first | (refine .done ?_; simp [Tm.enc]; done) | (refine Tn.wkRet ?_; (repeat (first | with_reducible exact AV.Wk.refl _ | with_reducible exact WkL.refl _ | with_reducible exact WkLL.refl _ | exact AV.Wk.nil _ | apply AV.Wk.agg | apply AV.Wk.tup | apply AV.Wk.ro | apply WkL.cons | apply WkLL.cons | exact WkL.nil | exact WkLL.nil))))

theorem find_new (vs : List Int) (n : Int) (hn : n ∉ vs) (hl : vs.length < 1000000) : ACalls Try.prog 68 [.ptr 0 0, .int .i64 n] (fndH vs) (fun r h => r = .ret (.int .i64 vs.length) ∧ h = fndT (vs ++ [n])) := by
  refine ACalls.gc [4] (by simp) (ACalls.post (calls_tree 400 fn68 (by simp [Try.f68]) ?_))
  have hroom : (vs.length + 1) * 8 ≤ 140737488355328 := by omega
  simp (maxSteps := 3000000) [↓run.eq_def, ↓aop.eq_def, ↓After.eq_def, ↓Resume.eq_def, ↓EndsV.eq_def, ↓aResults.eq_def, ↓aBuiltin.eq_def, ↓aLen.eq_def, ↓aLoad.eq_def, ↓aPart.eq_def, ↓aStore.eq_def, ↓aFieldAddr.eq_def, ↓aField.eq_def, ↓aOff.eq_def, ↓aAlloc.eq_def, ↓aBox.eq_def, ↓aIndex.eq_def, ↓aIndexAddr.eq_def, ↓aBuild.eq_def, ↓aBuildSlice.eq_def, ↓aAppend.eq_def, ↓aSlice.eq_def, ↓aBound.eq_def, ↓aUn.eq_def, ↓aConvert.eq_def, ↓aExtract.eq_def, ↓aMakeIface.eq_def, ↓aAssert.eq_def, ↓aMaxOp.eq_def, ↓aMax.eq_def, ↓aMakeMap.eq_def, ↓aLookup.eq_def, ↓aMapUpd.eq_def, ↓findA_P, findP.eq_1, findP.eq_2, ↓aBin.eq_def, ↓aIntOp.eq_def, ↓aStrOp.eq_def, ↓aNilEq.eq_def, ↓qrun.eq_def, ↓qop.eq_def, ↓QAfter.eq_def, ↓callOf.eq_def, yieldA, quietOp, newOp, ↓Tr.get.eq_def, ↓Tr.set.eq_def, ↓pickT.eq_def, ↓ofL.eq_def, ↓mkT.eq_def, ↓toL_set, ↓toL_get, toL_map, Tr.map, ↓aAppendAcc.eq_def, ↓aLenAcc.eq_def, Try.f68, hn, hroom]
  (try simp [Tm.enc]); (first | (refine .done ?_; simp [Tm.enc]; done) | (refine Tn.wkRet ?_; (repeat (first | with_reducible exact AV.Wk.refl _ | with_reducible exact WkL.refl _ | with_reducible exact WkLL.refl _ | exact AV.Wk.nil _ | apply AV.Wk.agg | apply AV.Wk.tup | apply AV.Wk.ro | apply WkL.cons | apply WkLL.cons | exact WkL.nil | exact WkLL.nil))))

/-- Numbers found before, and behind a term. -/
def addV (vs : List Int) (n : Int) : List Int := if n ∈ vs then vs else vs ++ [n]
mutual
def varsT : Tm → List Int → List Int
  | ⟨k, n, _, a⟩, vs => varsL a (if k = 1 then addV vs n else vs)
def varsL : List Tm → List Int → List Int
  | [], vs => vs
  | t :: l, vs => varsL l (varsT t vs)
end
/-! A term whose variables are told by their places. -/
mutual
def numT : Tm → List Int → Tm
  | ⟨k, n, s, a⟩, vs => ⟨k, if k = 1 then ((addV vs n).idxOf n : Nat) else n, s, numL a (if k = 1 then addV vs n else vs)⟩
def numL : List Tm → List Int → List Tm
  | [], _ => []
  | t :: l, vs => numT t vs :: numL l (varsT t vs)
end

end Go.Proofs.Yteebkkipeiggcaa
