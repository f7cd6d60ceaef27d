/- The abstract machine, part 31: a region that draws its order and holds one call that turns some blocks, with what comes from that call on put off. -/
import Derived.Test.YteebkkipeiggcaaB2
set_option linter.unusedVariables false
set_option linter.unusedSimpArgs false
namespace Go.Vm
open Go
section
variable {P : Program} {T : Tab} {F : FTab}
/-- The call, and what comes behind it ('simp' must not look into it ahead of time). -/
def LaterE (P : Program) (T : Tab) (F : FTab) (all : Array Oper) (p e : Nat) (ids : List Nat) (x0 : AV) (hb h hf1 : AH) (k : List It) (K : AExit → AAct → AH → Prop) (a1 : AAct) (g1 : AH) : Prop :=
  ECall P T F all (all.getD e default) ids x0 h hf1 (qrun P T F all (fun a h => AStk P hb (.ops all (all.toList.drop p) :: k) a (AH.back h ids hf1) K) ((all.toList.take p).drop (e + 1))) a1 g1
/-- A region's end, behind such a call. -/
def LaterB (P : Program) (all : Array Oper) (p : Nat) (ids : List Nat) (hb hf1 : AH) (k : List It) (K : AExit → AAct → AH → Prop) (a : AAct) (h : AH) : Prop :=
  AStk P hb (.ops all (all.toList.drop p) :: k) a (AH.back h ids hf1) K
theorem LaterE.mk {all : Array Oper} {p e : Nat} {ids : List Nat} {x0 : AV} {hb h hf1 : AH} {k : List It} {K : AExit → AAct → AH → Prop} {a1 : AAct} {g1 : AH} {gf : FuncId} {args : List AV}
    (h1 : OnA all (all.getD e default) a1 true) (h2 : callOf F (ev a1.tmps) (all.getD e default) = some (gf, args))
    (h3 : ACalls P gf (args.map (AV.sub (inn ids))) (ids.map fun i => (h.getD i .dead).sub (inn ids)) (fun r h1 => r = .ret x0 ∧ h1 = hf1)) (h4 : ids.length ≤ hf1.length)
    (h5 : qrun P T F all (LaterB P all p ids hb hf1 k K) ((all.toList.take p).drop (e + 1)) (a1.put (all.getD e default).dst x0) g1) :
    LaterE P T F all p e ids x0 hb h hf1 k K a1 g1 := by
  refine ⟨h1, ?_⟩
  rw [h2]
  exact ⟨h3, h4, h5⟩
theorem stk_drawL (hm : P.follows .mixedOrders = true) (hT : T.OK P) (hF : F.OK P) {i : Nat} {all : Array Oper} (p e : Nat) (hL : lexOK all p = true) {k : List It} {a : AAct} {hb h : AH} {K : AExit → AAct → AH → Prop}
    (ids : List Nat) (x0 : AV) (hf1 : AH) (hep : e < p) (hnd : ids.Nodup) (hid : ∀ i ∈ ids, i < h.length) (hx0 : NoId x0)
    (hq : qrun P T F all (LaterE P T F all p e ids x0 hb h hf1 k K) ((all.toList.take p).take e) a (kills h ids)) :
    AStk P hb (.code (.region i all true) :: k) a h K :=
  stk_drawE hm hT hF p e hL ids x0 hf1 hep hnd hid hx0 hq
end
end Go.Vm
