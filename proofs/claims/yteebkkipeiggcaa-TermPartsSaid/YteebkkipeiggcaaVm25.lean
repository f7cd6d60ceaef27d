/- The abstract machine, part 25: from a call that is known without any block to the statements' form. -/
import Derived.Test.YteebkkipeiggcaaVm24
import Derived.ProofKit
set_option linter.unusedVariables false
set_option linter.unusedSimpArgs false
namespace Go.Vm
open Go Go.ChangeShapes Go.WideShapes Go.ChangeAt Go.RowKit

/-- What was there before lies as it did. -/
structure Kept (W W' : World) : Prop where
  heap : ∀ b, b < W.heap.size → W'.heap[b]? = W.heap[b]?
  size : W.heap.size ≤ W'.heap.size
  os : W'.os = W.os
  out : W'.output = W.output

theorem Kept.but {W W' : World} (h : Kept W W') (may : MemPlace → Prop) : W.keptBut W' may := by
  refine ⟨h.os, h.out, fun i hi => ?_⟩
  rw [h.heap i hi]
  cases W.heap[i]? with
  | none => rfl
  | some o => cases o <;> simp

theorem Kept.frozen {W W' : World} (h : Kept W W') (a : Addr) (ha : a.block < W.heap.size) : W'.frozen? a = W.frozen? a := by
  simp only [World.frozen?, h.heap a.block ha]

/-- A law's end: it answers 'v'; what it was given reads as it did. -/
theorem post_of_kept {H : Type} {enc : TypeId × Value → H} {P : Program} {f : Func} {s : ChangeSpec} {apart fresh handsOn again : Bool} {W W' : World} {args : Array Value} {v : Value} {ds gs : List (DataW H)} {before pa pv : List MemPlace}
    (hW : DataW.Whole enc P f.params.toList s.vars apart W args.toList ds gs before)
    (hres : ∀ (b : Nat) (sp : Nat → Bool) (hd : Bool), DataW.TrodAll enc P W' b sp hd f.resultTypes.toList (v.resultList f.resultTypes.size) (s.fn H (ds ++ gs)).results [])
    (hargs : ∀ sp : Nat → Bool, (∀ p ∈ before, sp p.block = true) → DataW.TrodAll enc P W' 0 sp true f.params.toList args.toList (s.fn H (ds ++ gs)).args pa)
    (hvars : ∀ sp : Nat → Bool, (∀ p ∈ before, sp p.block = true) → DataW.TrodVars enc P W' sp s.vars (s.fn H (ds ++ gs)).vars pv)
    (hps : before = pa ++ pv) (hk : Kept W W')
    (hok : ∀ (j : Nat) (t : TypeId) (r : Value), f.resultTypes[j]? = some t → (v.resultList f.resultTypes.size)[j]? = some r → Value.okWide P W' .any 0 t r) :
    s.post enc P f apart fresh handsOn again W args v W' := by
  have hold : ∀ p ∈ before, (fun b => decide (b < W.heap.size)) p.block = true := fun p hp => by simpa using hW.lt p hp
  have hlt : ∀ p ∈ before, p.block < W.heap.size := fun p hp => hW.lt p hp
  refine ⟨ds, gs, before, [], pa, pv, hW, hres _ _ _, hargs _ hold, hvars _ hold, World.keptBut_mono (fun p hp => ⟨hp, ?_⟩) (hk.but (· ∈ before)), fun _ => ?_⟩
  · rw [hps, List.mem_append] at hp
    exact Or.inr hp
  · obtain ⟨_, _, _, _, _, hz, hn⟩ := hW
    refine ⟨hok, _, _, ([] ++ pa) ++ pv, ⟨[] ++ pa, pv, trodAll_append (hargs _ (fun _ _ => rfl)) (hres _ _ _), hvars _ (fun _ _ => rfl), rfl, ?_, ?_⟩, ?_⟩
    · intro b off hp
      have hp' : MemPlace.cell b off ∈ before := by rw [hps]; simpa using hp
      rw [hk.frozen _ (hlt _ hp')]
      exact hz b off hp'
    · intro ha
      have := hn ha
      rw [hps] at this
      simpa using this
    · intro p hp _
      rw [hps]
      simpa using hp

/-- The blocks' cells, as many as there are: nobody writes them. -/
def cellsIn (w : World) (b : Nat) : Nat := match w.heap[b]? with
  | some (.cells vs _ _) => vs.size
  | _ => 0

def startCx (W : World) : Cx := ⟨fun _ => none, cellsIn W, W⟩

theorem startCx_sim (W : World) : Sim (startCx W) [] := by
  refine ⟨fun _ _ => rfl, fun i b e => by simp at e, fun i j li lj ⟨b, e, _⟩ => by simp at e, fun b hb => ?_⟩
  show b < W.heap.size
  have hb' : 0 < cellsIn W b := hb
  rcases Nat.lt_or_ge b W.heap.size with h | h
  · exact h
  · unfold cellsIn at hb'
    rw [Array.getElem?_eq_none h] at hb'
    simp at hb'

theorem calls_start {P : Program} {f : FuncId} {args : List AV} {x : AV} {vs : Array Value} {W : World} (h : ACalls P f args [] (fun r _ => r = .ret x)) (hv : VRs (startCx W) args vs.toList) :
    Calls P f vs W fun e w => ∃ (v : Value) (c : Cx), e = .returned v ∧ Kept W w ∧ VR c x v := by
  refine (h (startCx W) vs (startCx_sim W) hv).mono fun e w ⟨c, h', r, q1, q2, q3, q4, q5⟩ => ?_
  subst q1
  subst q5
  have hno : ∀ b, ¬ Owns (startCx W) [] b := fun b ⟨i, l, ⟨bl, e, _⟩, _⟩ => by simp at e
  cases q4 with
  | ret hr => exact ⟨_, c, rfl, ⟨fun b hb => (q2.frame b hb (hno b)).1, q2.size, q2.os, q2.output⟩, hr⟩

end Go.Vm
