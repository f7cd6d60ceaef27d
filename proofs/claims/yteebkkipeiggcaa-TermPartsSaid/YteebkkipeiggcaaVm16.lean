/- The abstract machine, part 16: operations that only read, operations that make one block, and what they look at. -/
import Derived.Test.YteebkkipeiggcaaVm15
set_option linter.unusedVariables false
set_option linter.unusedSimpArgs false
namespace Go.Vm
open Go

def quietOp : Op → Bool
  | .move _ | .assign _ | .pick .. | .build .. | .load .. | .nilCheck _ | .binOp .. | .unOp .. | .convert .. | .makeInterface .. | .makeFunc .. | .fieldAddr .. | .field .. | .indexAddr ..
  | .index .. | .lookup .. | .typeAssert .. | .extract .. => true
  | .slice _ _ _ _ none => true
  | .call { callee := .builtin .len, .. } | .call { callee := .builtin .max, .. } | .call { callee := .builtin .min, .. } => true
  | _ => false

section
variable {P : Program} {T : Tab} {F : FTab} {h : AH}

theorem aop_quiet {ρ : Operand → AV} {o : Oper} {K : ANext → AH → Prop} (hq : quietOp o.op = true) (hk : aop T F ρ h o K) :
    ∃ x, K (.val x) h ∧ ∀ K' : ANext → AH → Prop, K' (.val x) h → aop T F ρ h o K' := by
  obtain ⟨dst, op, ty, pos, after, guard⟩ := o
  have lift : ∀ {G : (AV → AH → Prop) → Prop}, (∃ v, (fun v h => K (.val v) h) v h ∧ ∀ K' : AV → AH → Prop, K' v h → G K') → ∃ x, K (.val x) h ∧ ∀ K' : ANext → AH → Prop, K' (.val x) h → G (fun v h => K' (.val v) h) :=
    fun ⟨v, a, b⟩ => ⟨v, a, fun K' h' => b (fun v h => K' (.val v) h) h'⟩
  cases op <;> simp only [quietOp, Bool.false_eq_true] at hq <;> simp only [aop] at hk ⊢
  case move x => exact ⟨_, hk, fun K' h' => h'⟩
  case assign x => exact ⟨_, hk, fun K' h' => h'⟩
  case pick x a b =>
    split at hk
    · exact ⟨_, hk, fun K' h' => h'⟩
    · exact hk.elim
  case build t ps => exact lift (aBuild_pick hk)
  case load t x => exact lift (aLoad_pick hk)
  case nilCheck x =>
    split at hk
    · exact ⟨_, hk, fun K' h' => h'⟩
    · exact ⟨_, hk, fun K' h' => h'⟩
    · exact ⟨_, hk, fun K' h' => h'⟩
    · exact ⟨_, hk, fun K' h' => h'⟩
    · exact hk.elim
  case binOp op t x y t' => exact lift (aBin_pick hk)
  case unOp op t x => exact lift (aUn_pick hk)
  case convert s d x => exact lift (aConvert_pick hk)
  case makeInterface t x => exact lift (aMakeIface_pick hk)
  case makeFunc f a b => exact ⟨_, hk, fun K' h' => h'⟩
  case slice t x lo hi mx =>
    cases mx with
    | none => exact lift (aSlice_pick hk)
    | some m => simp [quietOp] at hq
  case fieldAddr t x f => exact lift (aFieldAddr_pick hk)
  case field t x f => exact lift (aField_pick hk)
  case indexAddr t x i => exact lift (aIndexAddr_pick hk)
  case index t x i => exact lift (aIndex_pick hk)
  case lookup t x i ok => exact lift (aLookup_pick hk)
  case typeAssert x xt t ok => exact lift (aAssert_pick hk)
  case extract x i => exact lift (aExtract_pick hk)
  case call cl =>
    obtain ⟨callee, xs, ts⟩ := cl
    cases callee with
    | builtin b =>
      cases b <;> simp only [quietOp, Bool.false_eq_true] at hq
      · simp only [aop] at hk ⊢
        generalize xs.toList.map ρ = ys at hk ⊢
        cases ys with
        | nil => exact hk.elim
        | cons y ys =>
          cases ys with
          | nil => exact lift (aLen_pick hk)
          | cons z ys => exact hk.elim
      · simp only [aop, aBuiltin] at hk ⊢
        exact lift (aMaxOp_pick hk)
      · simp only [aop, aBuiltin] at hk ⊢
        exact lift (aMaxOp_pick hk)
    | value f => simp [quietOp] at hq
    | invoke r n => simp [quietOp] at hq

variable {c : Cx}

theorem aop_quiet_sound (hT : T.OK P) {ρa : Operand → AV} {ρ : Operand → Value} {o : Oper} {x : AV} (hq : quietOp o.op = true) (hrd : Rd c h) (hρ : ∀ x, VR c (ρa x) (ρ x))
    (hk : aop T F ρa h o fun nx _ => nx = .val x) : ∃ v, (execOp ρ o).run P c.w = .ok (.value v) c.w ∧ VR c x v := by
  obtain ⟨dst, op, ty, pos, after, guard⟩ := o
  have hm : ∀ xs : Array Operand, VRs c (xs.toList.map ρa) (xs.map ρ).toList := fun xs => by
    rw [Array.toList_map]; exact VRs.map hρ xs.toList
  have hp : ∀ ps : Array (Nat × Operand), PartsR c (ps.toList.map fun p => (p.1, ρa p.2)) (ps.map fun p => (p.1, ρ p.2)).toList := fun ps => by
    rw [Array.toList_map]; exact PartsR.map hρ ps.toList
  have hop1 : ∀ (x : Option Operand) (y : AV), x.map ρa = some y → ∃ v, x.map ρ = some v ∧ VR c y v := fun x y e => by
    cases x with
    | none => cases e
    | some z => cases e; exact ⟨_, rfl, hρ z⟩
  have hop0 : ∀ (x : Option Operand), x.map ρa = none → x.map ρ = none := fun x e => by
    cases x with
    | none => rfl
    | some z => cases e
  have sv : ∀ {s : Sem Value}, SV0 P s c (fun y => (fun nx (_ : AH) => nx = ANext.val x) (.val y) h) → ∃ v, (do pure (.value (← s)) : Sem Next).run P c.w = .ok (.value v) c.w ∧ VR c x v := fun {s} ⟨y, v, a, b, d⟩ => by
    have : y = x := by simpa using a
    subst this
    exact ⟨v, by simp [b], d⟩
  cases op <;> simp only [quietOp, Bool.false_eq_true] at hq <;> simp only [aop] at hk <;> simp only [execOp]
  case move y => cases hk; exact ⟨_, rfl, hρ y⟩
  case assign y => cases hk; exact ⟨_, rfl, hρ y⟩
  case pick y a b =>
    split at hk
    · rename_i t ht
      have := hρ y
      rw [ht] at this
      cases hk
      refine ⟨if t then ρ a else ρ b, ?_, (hρ a).pickV (hρ b)⟩
      generalize ρ y = vx at this
      cases this
      simp only [asBool, Sem.run_bind, Sem.run_pure, Result.andThen_ok]
    · exact hk.elim
  case build t ps => exact sv (aBuild_sound hT hrd (hp ps) hk)
  case load t x => exact sv (aLoad_sound0 hT hrd (hρ x) hk)
  case nilCheck y =>
    have hx := hρ y
    split at hk <;> (try exact hk.elim)
    all_goals
      rename_i e
      rw [e] at hx
      cases hk
      generalize ρ y = vx at hx
      refine ⟨vx, ?_, hx⟩
      cases hx; rfl
  case binOp op t x y t' => exact sv (aBin_sound hT hrd (hρ x) (hρ y) hk)
  case unOp op t x => exact sv (aUn_sound hrd (hρ x) hk)
  case convert s d x => exact sv (aConvert_sound hT hrd (hρ x) hk)
  case makeInterface t x => exact sv (aMakeIface_sound hT hrd (hρ x) hk)
  case makeFunc f a b =>
    cases hk
    exact ⟨.func f (a.map ρ) (b.map ρ), rfl, .fn (by simp) (by simp) (fun i x v h1 h2 => (hm a).2 i x v h1 (by simpa using h2)) (fun i x v h1 h2 => (hm b).2 i x v h1 (by simpa using h2))⟩
  case slice t x lo hi mx =>
    cases mx with
    | none => exact sv (aSlice_sound hT hrd (hρ x) (hop1 lo) (hop1 hi) (hop0 lo) (hop0 hi) hk)
    | some m => exact hk.elim
  case fieldAddr t x f => exact sv (aFieldAddr_sound hT hrd (hρ x) hk)
  case field t x f => exact sv (aField_sound hT hrd (hρ x) hk)
  case indexAddr t x i => exact sv (aIndexAddr_sound hT hrd (hρ x) (hρ i) hk)
  case index t x i => exact sv (aIndex_sound hT hrd (hρ x) (hρ i) hk)
  case lookup t x i ok => exact sv (aLookup_sound hT hrd (hρ x) (hρ i) hk)
  case typeAssert x xt t ok => exact sv (aAssert_sound hT hrd (hρ x) hk)
  case extract x i => exact sv (aExtract_sound hrd (hρ x) hk)
  case call cl =>
    obtain ⟨callee, xs, ts⟩ := cl
    have hrun : ∀ (b : Builtin) (r : Result Next), (builtin b ts ty (xs.map fun | .const _ => true | _ => false) (xs.map ρ)).run P c.w = r → ((do let d ← resolve ρ { callee := .builtin b, args := xs, argTypes := ts } ty; invoke d.target d.args : Sem Next)).run P c.w = r := fun b r hr => by
      simp only [resolve, Sem.run_bind, Sem.run_pure, Result.andThen_ok, invoke]
      exact hr
    cases callee with
    | builtin b =>
      have hxs := hm xs
      simp only [aop] at hk
      generalize hys : xs.toList.map ρa = ys at hk hxs
      cases b <;> simp only [quietOp, Bool.false_eq_true] at hq
      · cases ys with
        | nil => exact hk.elim
        | cons y ys =>
          cases ys with
          | cons z ys => exact hk.elim
          | nil =>
            obtain ⟨v, hv, hx⟩ := hxs.one
            have hv' : xs.map ρ = #[v] := Array.ext' hv
            have hk' : aLen T ts.toList y h fun v _ => ANext.val v = ANext.val x := hk
            obtain ⟨u, h1, h2⟩ := sv (aLen_sound (P := P) (ty := ty) hT hrd hx hk')
            refine ⟨u, hrun _ _ ?_, h2⟩
            rw [hv']
            simpa [builtin] using h1
      · simp only [aBuiltin] at hk
        obtain ⟨u, h1, h2⟩ := sv (aMaxOp_sound (P := P) (mx := true) (ts := ts) (ty := ty) hrd hxs hk)
        exact ⟨u, hrun _ _ (by simpa [builtin] using h1), h2⟩
      · simp only [aBuiltin] at hk
        obtain ⟨u, h1, h2⟩ := sv (aMaxOp_sound (P := P) (mx := false) (ts := ts) (ty := ty) hrd hxs hk)
        exact ⟨u, hrun _ _ (by simpa [builtin] using h1), h2⟩
    | value f => simp [quietOp] at hq
    | invoke r n => simp [quietOp] at hq

end
end Go.Vm
