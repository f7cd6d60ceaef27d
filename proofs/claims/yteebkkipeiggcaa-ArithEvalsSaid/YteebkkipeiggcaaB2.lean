/- The abstract machine, part 15: of an operation that only reads: what it yields, apart from what comes behind it. -/
import Derived.Test.YteebkkipeiggcaaB1
import Derived.Laws.Strings
import Derived.ProofKit
import Derived.ChangeArms
import Derived.Carry
set_option linter.unusedVariables false
set_option linter.unusedSimpArgs false
namespace Go.Vm
open Go

section
variable {P : Program} {T : Tab} {F : FTab} {h : AH} {K : AV → AH → Prop}

theorem aPart_pick {ti : TyI} {cs : List AV} {off : Nat} {K : AV → Prop} (hk : aPart ti cs off K) : ∃ v, K v ∧ ∀ K' : AV → Prop, K' v → aPart ti cs off K' := by
  unfold aPart at hk ⊢
  (repeat' split at hk) <;> first
    | exact hk.elim
    | exact ⟨_, hk, fun K' h' => by simp_all⟩

theorem aLoad_pick {t : TypeId} {x : AV} (hk : aLoad T t x h K) : ∃ v, K v h ∧ ∀ K' : AV → AH → Prop, K' v h → aLoad T t x h K' := by
  unfold aLoad at hk ⊢
  (repeat' split at hk) <;> first
    | exact hk.elim
    | (obtain ⟨v, h1, h2⟩ := aPart_pick hk
       exact ⟨v, h1, fun K' h' => by have := h2 (fun y => K' y h) h'; simp_all⟩)

theorem aOff_pick {x : AV} {n : Nat} (hk : aOff x n h K) : ∃ v, K v h ∧ ∀ K' : AV → AH → Prop, K' v h → aOff x n h K' := by
  unfold aOff at hk ⊢
  (repeat' split at hk) <;> first
    | exact hk.elim
    | exact ⟨_, hk, fun K' h' => h'⟩

theorem aFieldAddr_pick {t : TypeId} {x : AV} {f : Nat} (hk : aFieldAddr T t x f h K) : ∃ v, K v h ∧ ∀ K' : AV → AH → Prop, K' v h → aFieldAddr T t x f h K' := by
  unfold aFieldAddr at hk ⊢
  (repeat' split at hk) <;> first
    | exact hk.elim
    | (obtain ⟨v, h1, h2⟩ := aOff_pick hk
       exact ⟨v, h1, fun K' h' => by have := h2 _ h'; simp_all⟩)

theorem aField_pick {t : TypeId} {x : AV} {f : Nat} (hk : aField T t x f h K) : ∃ v, K v h ∧ ∀ K' : AV → AH → Prop, K' v h → aField T t x f h K' := by
  unfold aField at hk ⊢
  (repeat' split at hk) <;> first
    | exact hk.elim
    | (obtain ⟨v, h1, h2⟩ := aPart_pick hk
       exact ⟨v, h1, fun K' h' => by have := h2 (fun y => K' y h) h'; simp_all⟩)

theorem aIndexAddr_pick {t : TypeId} {x i : AV} (hk : aIndexAddr T t x i h K) : ∃ v, K v h ∧ ∀ K' : AV → AH → Prop, K' v h → aIndexAddr T t x i h K' := by
  unfold aIndexAddr at hk ⊢
  (repeat' split at hk) <;> first
    | exact hk.elim
    | exact ⟨_, hk, fun K' h' => by simp_all⟩
    | (obtain ⟨v, h1, h2⟩ := aOff_pick hk
       exact ⟨v, h1, fun K' h' => by have := h2 _ h'; simp_all⟩)

theorem aIndex_pick {t : TypeId} {x i : AV} (hk : aIndex T t x i h K) : ∃ v, K v h ∧ ∀ K' : AV → AH → Prop, K' v h → aIndex T t x i h K' := by
  unfold aIndex at hk ⊢
  (repeat' split at hk) <;> first
    | exact hk.elim
    | exact ⟨_, hk, fun K' h' => by simp_all⟩
    | (obtain ⟨v, h1, h2⟩ := aPart_pick hk
       exact ⟨v, h1, fun K' h' => by have := h2 (fun y => K' y h) h'; simp_all⟩)

theorem aBound_pick {x : Option AV} {d y : Nat} {K : Nat → Prop} (hk : aBound x d y K) : ∃ n, K n ∧ ∀ K' : Nat → Prop, K' n → aBound x d y K' := by
  unfold aBound at hk ⊢
  (repeat' split at hk) <;> first
    | exact hk.elim
    | exact ⟨_, hk, fun K' h' => by simp_all⟩

theorem aBound2_pick {lo hi : Option AV} {d y : Nat} {Q : Nat → Nat → Prop} (hk : aBound hi d y fun b => aBound lo 0 b fun a => Q a b) :
    ∃ a b, Q a b ∧ ∀ Q' : Nat → Nat → Prop, Q' a b → aBound hi d y fun b => aBound lo 0 b fun a => Q' a b := by
  obtain ⟨b, h1, h2⟩ := aBound_pick hk
  obtain ⟨a, h3, h4⟩ := aBound_pick h1
  exact ⟨a, b, h3, fun Q' h' => h2 (fun b => aBound lo 0 b fun a => Q' a b) (h4 (fun a => Q' a b) h')⟩

theorem aSlice_pick {t : TypeId} {x : AV} {lo hi : Option AV} (hk : aSlice T t x lo hi h K) : ∃ v, K v h ∧ ∀ K' : AV → AH → Prop, K' v h → aSlice T t x lo hi h K' := by
  unfold aSlice at hk ⊢
  (repeat' split at hk) <;> first
    | exact hk.elim
    | (obtain ⟨a, b, h1, h2⟩ := aBound2_pick hk
       first
         | (refine ⟨_, h1, fun K' h' => ?_⟩
            first
              | exact h2 _ h'
              | (rw [if_pos (by assumption)]; exact h2 _ h'))
         | (split at h1
            · rename_i hlt
              refine ⟨_, h1, fun K' h' => ?_⟩
              first
                | exact h2 _ (by rw [if_pos hlt]; exact h')
                | (rw [if_pos (by assumption)]
                   exact h2 _ (by rw [if_pos hlt]; exact h'))
            · exact h1.elim))

theorem aBuild_pick {t : TypeId} {ps : List (Nat × AV)} (hk : aBuild T t ps h K) : ∃ v, K v h ∧ ∀ K' : AV → AH → Prop, K' v h → aBuild T t ps h K' := by
  unfold aBuild at hk ⊢
  (repeat' split at hk) <;> first
    | exact hk.elim
    | exact ⟨_, hk, fun K' h' => by simp_all⟩

theorem aIntOp_pick {op : BinOp} {k : IntKind} {a b : Int} {K : AV → Prop} (hk : aIntOp op k a b K) : ∃ v, K v ∧ ∀ K' : AV → Prop, K' v → aIntOp op k a b K' := by
  unfold aIntOp at hk ⊢
  (repeat' split at hk) <;> first
    | exact hk.elim
    | exact ⟨_, hk, fun K' h' => by simp_all⟩

theorem aStrOp_pick {op : BinOp} {a b : ByteArray} {K : AV → Prop} (hk : aStrOp op a b K) : ∃ v, K v ∧ ∀ K' : AV → Prop, K' v → aStrOp op a b K' := by
  unfold aStrOp at hk ⊢
  (repeat' split at hk) <;> first
    | exact hk.elim
    | exact ⟨_, hk.2, fun K' h' => ⟨hk.1, h'⟩⟩
    | exact ⟨_, hk, fun K' h' => h'⟩

theorem aNilEq_pick {t : TypeId} {x y : AV} {K : Bool → Prop} (hk : aNilEq T t x y K) : ∃ v, K v ∧ ∀ K' : Bool → Prop, K' v → aNilEq T t x y K' := by
  unfold aNilEq at hk ⊢
  (repeat' split at hk) <;> first
    | exact hk.elim
    | exact ⟨_, hk, fun K' h' => by simp_all⟩

theorem aBin_pick {op : BinOp} {t : TypeId} {k : Bool} {x y : AV} (hk : aBin T op t k x y h K) : ∃ v, K v h ∧ ∀ K' : AV → AH → Prop, K' v h → aBin T op t k x y h K' := by
  unfold aBin at hk ⊢
  split at hk
  · split at hk
    · split at hk
      · exact hk.elim
      · rename_i hb
        exact ⟨_, hk, fun K' h' => by simp only [if_neg hb]; exact h'⟩
    · split at hk
      · exact hk.elim
      · rename_i hb
        exact ⟨_, hk, fun K' h' => by simp only [if_neg hb]; exact h'⟩
    · split at hk
      · rename_i hkk
        obtain ⟨v, h1, h2⟩ := aIntOp_pick hk
        exact ⟨v, h1, fun K' h' => by simp only [if_pos hkk]; exact h2 (fun z => K' z h) h'⟩
      · exact hk.elim
  · obtain ⟨v, h1, h2⟩ := aStrOp_pick hk
    exact ⟨v, h1, fun K' h' => h2 (fun z => K' z h) h'⟩
  · split at hk
    · split at hk
      · rename_i hkk
        obtain ⟨v, h1, h2⟩ := aNilEq_pick hk
        exact ⟨_, h1, fun K' h' => by simp only [if_pos hkk]; exact h2 (fun b => K' (.bool b) h) h'⟩
      · rename_i hkk
        split at hk
        · obtain ⟨v, h1, h2⟩ := aNilEq_pick hk
          exact ⟨_, h1, fun K' h' => by simp only [if_neg hkk]; exact h2 (fun b => K' (.bool b) h) h'⟩
        · exact hk.elim
    · split at hk
      · rename_i hkk
        obtain ⟨v, h1, h2⟩ := aNilEq_pick hk
        exact ⟨_, h1, fun K' h' => by simp only [if_pos hkk]; exact h2 (fun b => K' (.bool (!b)) h) h'⟩
      · rename_i hkk
        split at hk
        · obtain ⟨v, h1, h2⟩ := aNilEq_pick hk
          exact ⟨_, h1, fun K' h' => by simp only [if_neg hkk]; exact h2 (fun b => K' (.bool (!b)) h) h'⟩
        · exact hk.elim
    · exact hk.elim

theorem aUn_pick {op : UnOp} {x : AV} (hk : aUn op x h K) : ∃ v, K v h ∧ ∀ K' : AV → AH → Prop, K' v h → aUn op x h K' := by
  unfold aUn at hk ⊢
  split at hk
  · exact ⟨_, hk, fun K' h' => h'⟩
  · exact ⟨_, hk, fun K' h' => h'⟩
  · exact ⟨_, hk, fun K' h' => h'⟩
  · exact hk.elim

theorem aConvert_pick {s d : TypeId} {x : AV} (hk : aConvert T s d x h K) : ∃ v, K v h ∧ ∀ K' : AV → AH → Prop, K' v h → aConvert T s d x h K' := by
  unfold aConvert at hk ⊢
  (repeat' split at hk) <;> first
    | exact hk.elim
    | exact ⟨_, hk, fun K' h' => by simp_all⟩

theorem aExtract_pick {x : AV} {i : Nat} (hk : aExtract x i h K) : ∃ v, K v h ∧ ∀ K' : AV → AH → Prop, K' v h → aExtract x i h K' := by
  unfold aExtract at hk ⊢
  (repeat' split at hk) <;> first
    | exact hk.elim
    | exact ⟨_, hk, fun K' h' => by simp_all⟩

theorem aMakeIface_pick {t : TypeId} {x : AV} (hk : aMakeIface T t x h K) : ∃ v, K v h ∧ ∀ K' : AV → AH → Prop, K' v h → aMakeIface T t x h K' := by
  unfold aMakeIface at hk ⊢
  (repeat' split at hk) <;> first
    | exact hk.elim
    | exact ⟨_, hk, fun K' h' => by simp_all⟩

theorem aAssert_pick {x : AV} {t : TypeId} {ok : Bool} (hk : aAssert T x t ok h K) : ∃ v, K v h ∧ ∀ K' : AV → AH → Prop, K' v h → aAssert T x t ok h K' := by
  unfold aAssert at hk ⊢
  (repeat' split at hk) <;> first
    | exact hk.elim
    | exact ⟨_, hk, fun K' h' => by simp_all⟩

theorem aLen_pick {ts : List TypeId} {x : AV} (hk : aLen T ts x h K) : ∃ v, K v h ∧ ∀ K' : AV → AH → Prop, K' v h → aLen T ts x h K' := by
  unfold aLen at hk ⊢
  (repeat' split at hk) <;> first
    | exact hk.elim
    | exact ⟨_, hk, fun K' h' => by simp_all⟩

theorem aMax_pick {mx : Bool} {k : IntKind} {K : Int → Prop} : ∀ {xs : List AV} {a : Int}, aMax mx k a K xs → ∃ n, K n ∧ ∀ K' : Int → Prop, K' n → aMax mx k a K' xs := by
  intro xs
  induction xs with
  | nil => intro a hk; exact ⟨a, hk, fun K' h' => h'⟩
  | cons x xs ih =>
    intro a hk
    cases x <;> simp only [aMax] at hk ⊢ <;> try exact hk.elim
    split at hk
    · rename_i hkk
      obtain ⟨n, h1, h2⟩ := ih hk
      exact ⟨n, h1, fun K' h' => by rw [if_pos hkk]; exact h2 K' h'⟩
    · exact hk.elim

theorem aMaxOp_pick {mx : Bool} {xs : List AV} (hk : aMaxOp mx xs h K) : ∃ v, K v h ∧ ∀ K' : AV → AH → Prop, K' v h → aMaxOp mx xs h K' := by
  unfold aMaxOp at hk ⊢
  split at hk
  · obtain ⟨n, h1, h2⟩ := aMax_pick hk
    exact ⟨_, h1, fun K' h' => h2 _ h'⟩
  · exact hk.elim

theorem findA_pick {d : TypeDesc} {k : AV} {Ks : Nat → AV → Prop} {Kn : Prop} : ∀ {es : List (AV × AV × Nat)} {i : Nat}, findA d k Ks Kn es i →
    (∃ j y, Ks j y ∧ ∀ Ks' Kn', Ks' j y → findA d k Ks' Kn' es i) ∨ (Kn ∧ ∀ (Ks' : Nat → AV → Prop) (Kn' : Prop), Kn' → findA d k Ks' Kn' es i) := by
  intro es
  induction es with
  | nil => intro i hk; exact .inr ⟨hk, fun _ _ h' => h'⟩
  | cons a es ih =>
    intro i hk
    obtain ⟨k', y, n⟩ := a
    simp only [findA] at hk ⊢
    split at hk
    · split at hk
      · rename_i hb
        exact .inl ⟨i, y, hk, fun Ks' Kn' h' => by rw [if_pos hb]; exact h'⟩
      · rename_i hb
        rcases ih hk with ⟨j, y', h1, h2⟩ | ⟨h1, h2⟩
        · exact .inl ⟨j, y', h1, fun Ks' Kn' h' => by rw [if_neg hb]; exact h2 _ _ h'⟩
        · exact .inr ⟨h1, fun Ks' Kn' h' => by rw [if_neg hb]; exact h2 _ _ h'⟩
    · exact hk.elim

theorem aLookup_pick {t : TypeId} {m k : AV} {ok : Bool} (hk : aLookup T t m k ok h K) : ∃ v, K v h ∧ ∀ K' : AV → AH → Prop, K' v h → aLookup T t m k ok h K' := by
  unfold aLookup at hk ⊢
  (repeat' split at hk) <;> first
    | exact hk.elim
    | exact ⟨_, hk, fun K' h' => by simp_all⟩
    | (rcases findA_pick hk with ⟨j, y, h1, h2⟩ | ⟨h1, h2⟩
       · exact ⟨_, h1, fun K' h' => by
           have := h2 (fun _ v => K' (if ok then .tup [v, .bool true] else v) h)
           simp_all⟩
       · exact ⟨_, h1, fun K' h' => by
           have := h2 (fun _ v => K' (if ok then .tup [v, .bool true] else v) h) _ h'
           simp_all⟩)

end
end Go.Vm


/- The abstract machine, part 16: operations that only read, operations that make one block, and what they look at. -/
namespace Go.Vm
open Go

def quietOp : Op → Bool
  | .move _ | .assign _ | .pick .. | .build .. | .load .. | .nilCheck _ | .binOp .. | .unOp .. | .convert .. | .makeInterface .. | .makeFunc .. | .fieldAddr .. | .field .. | .indexAddr ..
  | .index .. | .lookup .. | .typeAssert .. | .extract .. => true
  | .slice _ _ _ _ none => true
  | .call { callee := .builtin .len, .. } | .call { callee := .builtin .max, .. } | .call { callee := .builtin .min, .. } => true
  | _ => false

section
variable {P : Program} {T : Tab} {F : FTab} {h : AH}

theorem aop_quiet {ρ : Operand → AV} {o : Oper} {K : ANext → AH → Prop} (hq : quietOp o.op = true) (hk : aop T F ρ h o K) :
    ∃ x, K (.val x) h ∧ ∀ K' : ANext → AH → Prop, K' (.val x) h → aop T F ρ h o K' := by
  obtain ⟨dst, op, ty, pos, after, guard⟩ := o
  have lift : ∀ {G : (AV → AH → Prop) → Prop}, (∃ v, (fun v h => K (.val v) h) v h ∧ ∀ K' : AV → AH → Prop, K' v h → G K') → ∃ x, K (.val x) h ∧ ∀ K' : ANext → AH → Prop, K' (.val x) h → G (fun v h => K' (.val v) h) :=
    fun ⟨v, a, b⟩ => ⟨v, a, fun K' h' => b (fun v h => K' (.val v) h) h'⟩
  cases op <;> simp only [quietOp, Bool.false_eq_true] at hq <;> simp only [aop] at hk ⊢
  case move x => exact ⟨_, hk, fun K' h' => h'⟩
  case assign x => exact ⟨_, hk, fun K' h' => h'⟩
  case pick x a b =>
    split at hk
    · exact ⟨_, hk, fun K' h' => h'⟩
    · exact hk.elim
  case build t ps => exact lift (aBuild_pick hk)
  case load t x => exact lift (aLoad_pick hk)
  case nilCheck x =>
    split at hk
    · exact ⟨_, hk, fun K' h' => h'⟩
    · exact ⟨_, hk, fun K' h' => h'⟩
    · exact ⟨_, hk, fun K' h' => h'⟩
    · exact ⟨_, hk, fun K' h' => h'⟩
    · exact hk.elim
  case binOp op t x y t' => exact lift (aBin_pick hk)
  case unOp op t x => exact lift (aUn_pick hk)
  case convert s d x => exact lift (aConvert_pick hk)
  case makeInterface t x => exact lift (aMakeIface_pick hk)
  case makeFunc f a b => exact ⟨_, hk, fun K' h' => h'⟩
  case slice t x lo hi mx =>
    cases mx with
    | none => exact lift (aSlice_pick hk)
    | some m => simp [quietOp] at hq
  case fieldAddr t x f => exact lift (aFieldAddr_pick hk)
  case field t x f => exact lift (aField_pick hk)
  case indexAddr t x i => exact lift (aIndexAddr_pick hk)
  case index t x i => exact lift (aIndex_pick hk)
  case lookup t x i ok => exact lift (aLookup_pick hk)
  case typeAssert x xt t ok => exact lift (aAssert_pick hk)
  case extract x i => exact lift (aExtract_pick hk)
  case call cl =>
    obtain ⟨callee, xs, ts⟩ := cl
    cases callee with
    | builtin b =>
      cases b <;> simp only [quietOp, Bool.false_eq_true] at hq
      · simp only [aop] at hk ⊢
        generalize xs.toList.map ρ = ys at hk ⊢
        cases ys with
        | nil => exact hk.elim
        | cons y ys =>
          cases ys with
          | nil => exact lift (aLen_pick hk)
          | cons z ys => exact hk.elim
      · simp only [aop, aBuiltin] at hk ⊢
        exact lift (aMaxOp_pick hk)
      · simp only [aop, aBuiltin] at hk ⊢
        exact lift (aMaxOp_pick hk)
    | value f => simp [quietOp] at hq
    | invoke r n => simp [quietOp] at hq

variable {c : Cx}

theorem aop_quiet_sound (hT : T.OK P) {ρa : Operand → AV} {ρ : Operand → Value} {o : Oper} {x : AV} (hq : quietOp o.op = true) (hrd : Rd c h) (hρ : ∀ x, VR c (ρa x) (ρ x))
    (hk : aop T F ρa h o fun nx _ => nx = .val x) : ∃ v, (execOp ρ o).run P c.w = .ok (.value v) c.w ∧ VR c x v := by
  obtain ⟨dst, op, ty, pos, after, guard⟩ := o
  have hm : ∀ xs : Array Operand, VRs c (xs.toList.map ρa) (xs.map ρ).toList := fun xs => by
    rw [Array.toList_map]; exact VRs.map hρ xs.toList
  have hp : ∀ ps : Array (Nat × Operand), PartsR c (ps.toList.map fun p => (p.1, ρa p.2)) (ps.map fun p => (p.1, ρ p.2)).toList := fun ps => by
    rw [Array.toList_map]; exact PartsR.map hρ ps.toList
  have hop1 : ∀ (x : Option Operand) (y : AV), x.map ρa = some y → ∃ v, x.map ρ = some v ∧ VR c y v := fun x y e => by
    cases x with
    | none => cases e
    | some z => cases e; exact ⟨_, rfl, hρ z⟩
  have hop0 : ∀ (x : Option Operand), x.map ρa = none → x.map ρ = none := fun x e => by
    cases x with
    | none => rfl
    | some z => cases e
  have sv : ∀ {s : Sem Value}, SV0 P s c (fun y => (fun nx (_ : AH) => nx = ANext.val x) (.val y) h) → ∃ v, (do pure (.value (← s)) : Sem Next).run P c.w = .ok (.value v) c.w ∧ VR c x v := fun {s} ⟨y, v, a, b, d⟩ => by
    have : y = x := by simpa using a
    subst this
    exact ⟨v, by simp [b], d⟩
  cases op <;> simp only [quietOp, Bool.false_eq_true] at hq <;> simp only [aop] at hk <;> simp only [execOp]
  case move y => cases hk; exact ⟨_, rfl, hρ y⟩
  case assign y => cases hk; exact ⟨_, rfl, hρ y⟩
  case pick y a b =>
    split at hk
    · rename_i t ht
      have := hρ y
      rw [ht] at this
      cases hk
      refine ⟨if t then ρ a else ρ b, ?_, (hρ a).pickV (hρ b)⟩
      generalize ρ y = vx at this
      cases this
      simp only [asBool, Sem.run_bind, Sem.run_pure, Result.andThen_ok]
    · exact hk.elim
  case build t ps => exact sv (aBuild_sound hT hrd (hp ps) hk)
  case load t x => exact sv (aLoad_sound0 hT hrd (hρ x) hk)
  case nilCheck y =>
    have hx := hρ y
    split at hk <;> (try exact hk.elim)
    all_goals
      rename_i e
      rw [e] at hx
      cases hk
      generalize ρ y = vx at hx
      refine ⟨vx, ?_, hx⟩
      cases hx; rfl
  case binOp op t x y t' => exact sv (aBin_sound hT hrd (hρ x) (hρ y) hk)
  case unOp op t x => exact sv (aUn_sound hrd (hρ x) hk)
  case convert s d x => exact sv (aConvert_sound hT hrd (hρ x) hk)
  case makeInterface t x => exact sv (aMakeIface_sound hT hrd (hρ x) hk)
  case makeFunc f a b =>
    cases hk
    exact ⟨.func f (a.map ρ) (b.map ρ), rfl, .fn (by simp) (by simp) (fun i x v h1 h2 => (hm a).2 i x v h1 (by simpa using h2)) (fun i x v h1 h2 => (hm b).2 i x v h1 (by simpa using h2))⟩
  case slice t x lo hi mx =>
    cases mx with
    | none => exact sv (aSlice_sound hT hrd (hρ x) (hop1 lo) (hop1 hi) (hop0 lo) (hop0 hi) hk)
    | some m => exact hk.elim
  case fieldAddr t x f => exact sv (aFieldAddr_sound hT hrd (hρ x) hk)
  case field t x f => exact sv (aField_sound hT hrd (hρ x) hk)
  case indexAddr t x i => exact sv (aIndexAddr_sound hT hrd (hρ x) (hρ i) hk)
  case index t x i => exact sv (aIndex_sound hT hrd (hρ x) (hρ i) hk)
  case lookup t x i ok => exact sv (aLookup_sound hT hrd (hρ x) (hρ i) hk)
  case typeAssert x xt t ok => exact sv (aAssert_sound hT hrd (hρ x) hk)
  case extract x i => exact sv (aExtract_sound hrd (hρ x) hk)
  case call cl =>
    obtain ⟨callee, xs, ts⟩ := cl
    have hrun : ∀ (b : Builtin) (r : Result Next), (builtin b ts ty (xs.map fun | .const _ => true | _ => false) (xs.map ρ)).run P c.w = r → ((do let d ← resolve ρ { callee := .builtin b, args := xs, argTypes := ts } ty; invoke d.target d.args : Sem Next)).run P c.w = r := fun b r hr => by
      simp only [resolve, Sem.run_bind, Sem.run_pure, Result.andThen_ok, invoke]
      exact hr
    cases callee with
    | builtin b =>
      have hxs := hm xs
      simp only [aop] at hk
      generalize hys : xs.toList.map ρa = ys at hk hxs
      cases b <;> simp only [quietOp, Bool.false_eq_true] at hq
      · cases ys with
        | nil => exact hk.elim
        | cons y ys =>
          cases ys with
          | cons z ys => exact hk.elim
          | nil =>
            obtain ⟨v, hv, hx⟩ := hxs.one
            have hv' : xs.map ρ = #[v] := Array.ext' hv
            have hk' : aLen T ts.toList y h fun v _ => ANext.val v = ANext.val x := hk
            obtain ⟨u, h1, h2⟩ := sv (aLen_sound (P := P) (ty := ty) hT hrd hx hk')
            refine ⟨u, hrun _ _ ?_, h2⟩
            rw [hv']
            simpa [builtin] using h1
      · simp only [aBuiltin] at hk
        obtain ⟨u, h1, h2⟩ := sv (aMaxOp_sound (P := P) (mx := true) (ts := ts) (ty := ty) hrd hxs hk)
        exact ⟨u, hrun _ _ (by simpa [builtin] using h1), h2⟩
      · simp only [aBuiltin] at hk
        obtain ⟨u, h1, h2⟩ := sv (aMaxOp_sound (P := P) (mx := false) (ts := ts) (ty := ty) hrd hxs hk)
        exact ⟨u, hrun _ _ (by simpa [builtin] using h1), h2⟩
    | value f => simp [quietOp] at hq
    | invoke r n => simp [quietOp] at hq

end
end Go.Vm


/- The abstract machine, part 17: operations that make one block; an operation hangs on its operands alone. -/
namespace Go.Vm
open Go

/-- How a new block is named. -/
inductive NK where
  | ptr
  | sl (len : Nat)
  | map

def NK.val : NK → Nat → AV
  | .ptr, k => .ptr k 0
  | .sl len, k => .sl k 0 len
  | .map, k => .map k

theorem NK.inj {a b : NK} {k : Nat} (h : a.val k = b.val k) : a = b := by
  cases a <;> cases b <;> simp_all [NK.val]

def newOp : Op → Bool
  | .alloc _ | .box .. | .buildSlice .. => true
  | .makeMap _ none => true
  | _ => false

/-- The model makes one block, and hands back its name. -/
def NewR (P : Program) (s : Sem Next) (c : Cx) (b : AB) (nk : NK) : Prop :=
  ∃ (o : Obj) (v : Value) (l : Loc), l.b = c.w.heap.size ∧ s.run P c.w = .ok (.value v) (c.w.alloc o) ∧
    ∀ (c' : Cx) (k : Nat), Le c c' → c'.w = c.w.alloc o → c'.L l.b = 0 → c'.φ k = some l → BR c' l b ∧ VR c' (nk.val k) v

section
variable {P : Program} {T : Tab} {F : FTab} {h : AH}

theorem newR_var {c : Cx} {cs : List AV} {vs : Array Value} (e : TypeId) (hv : VRs c cs vs.toList) (h1 : Ones vs.toList) : NewR P (do pure (.value (.pointer (some (← newRow e vs))))) c (.var cs) .ptr := by
  refine ⟨.cells vs e, .pointer (some ⟨c.w.heap.size, 0, none⟩), ⟨c.w.heap.size, 0, 0, 0⟩, rfl, rfl, fun c' k hle hw hL hφ => ⟨.var (T := e) (vs := vs) ?_ rfl hL (hv.mono hle) h1, VR.ptr (id := k) (off := 0) hφ⟩⟩
  rw [hw]
  show (c.w.heap.push _)[c.w.heap.size]? = _
  simp

theorem NewR.congr {s s' : Sem Next} {c : Cx} {b : AB} {nk : NK} (he : s.run P c.w = s'.run P c.w) (hh : NewR P s' c b nk) : NewR P s c b nk := by
  obtain ⟨o, v, l, a, b', d⟩ := hh
  exact ⟨o, v, l, a, he.trans b', d⟩

theorem aop_new (hT : T.OK P) {ρa : Operand → AV} {o : Oper} {K : ANext → AH → Prop} (hn : newOp o.op = true) (hk : aop T F ρa h o K) :
    ∃ (b : AB) (nk : NK), b.live = true ∧ K (.val (nk.val h.length)) (h ++ [b]) ∧ (∀ (h' : AH) (K' : ANext → AH → Prop), K' (.val (nk.val h'.length)) (h' ++ [b]) → aop T F ρa h' o K') ∧
      ∀ (c : Cx) (ρ : Operand → Value), (∀ x, VR c (ρa x) (ρ x)) → NewR P (execOp ρ o) c b nk := by
  obtain ⟨dst, op, ty, pos, after, guard⟩ := o
  cases op <;> simp only [newOp, Bool.false_eq_true] at hn <;> simp only [aop] at hk ⊢ <;> simp only [execOp]
  case alloc t =>
    unfold aAlloc at hk ⊢
    split at hk
    · rename_i ti ht
      refine ⟨_, .ptr, rfl, hk, fun h' K' hk' => hk', fun c ρ hρ => ?_⟩
      refine NewR.congr ?_ (newR_var t (VRs.map_ofCell c ti.zero.cells.toList) (hT t ti ht).zone)
      simp [Instr.alloc, (hT t ti ht).run_zeroValue c.w, newVar]
    · exact hk.elim
  case box t x =>
    unfold aBox at hk ⊢
    split at hk
    · rename_i cs hc
      refine ⟨_, .ptr, rfl, hk, fun h' K' hk' => hk', fun c ρ hρ => ?_⟩
      exact newR_var t ((hρ x).cells hc).1 ((hρ x).cells hc).2
    · exact hk.elim
  case buildSlice t len ps =>
    unfold aBuildSlice at hk ⊢
    split at hk
    · rename_i e s b z ht
      have hok := hT t _ ht
      split at hk
      · rename_i ei he
        have heo := hT e ei he
        split at hk
        · rename_i hle
          split at hk
          · rename_i es hes
            refine ⟨_, .sl len, rfl, hk, fun h' K' hk' => by rw [if_pos hle]; exact hk', fun c ρ hρ => ?_⟩
            have hp : PartsR c (ps.toList.map fun p => (p.1, ρa p.2)) (ps.map fun p => (p.1, ρ p.2)).toList := by
              rw [Array.toList_map]; exact PartsR.map hρ ps.toList
            obtain ⟨ws, g1, g2, g3, g4⟩ := fillE_sound hp (RowR.replicate heo.zsz heo.zone hle.1 len) hes
            have hlen : es.length = len := by rw [g3]; simp
            refine ⟨.cells ws e, .slice (some ⟨c.w.heap.size, 0, none⟩) len len, ⟨c.w.heap.size, 0, ws.size, ei.size⟩, rfl, ?_, fun c' k hl hw hL hφ => ⟨?_, ?_⟩⟩
            · suffices hr : (Instr.buildSlice t len (ps.map fun p => (p.1, ρ p.2))).run P c.w = .ok (.slice (some ⟨c.w.heap.size, 0, none⟩) len len) (c.w.alloc (.cells ws e)) by
                simp [hr]
              by_cases hz : len * ei.size = 0
              · have hl0 : len = 0 := by
                  rcases Nat.eq_zero_or_pos len with h' | h'
                  · exact h'
                  · have := Nat.mul_pos h' hle.1; omega
                subst hl0
                have hE : ((Array.range (0 * ei.size)).map (ei.zero.cells[· % ei.zero.cells.size]!)) = #[] := by simp
                rw [hE] at g1
                simp only [Instr.buildSlice, Sem.run_bind, hok.run_underlying c.w, Result.andThen_ok, heo.run_sizeOf c.w, Nat.zero_mul, if_true, Sem.run_pure, Sem.run_ite]
                rw [if_neg (by decide)]
                have hE2 : ((Array.range 0).map ((#[] : Array Value)[· % (#[] : Array Value).size]!)) = #[] := by simp
                rw [hE2, g1]
                rfl
              · have hgt : ¬ (len * ei.size > 2 ^ 24) := by omega
                simp only [Instr.buildSlice, Sem.run_bind, hok.run_underlying c.w, Result.andThen_ok, heo.run_sizeOf c.w, hgt, if_false, hz, heo.run_zeroValue c.w, Sem.run_pure, Sem.run_ite]
                rw [g1]
                rfl
            · refine .arr (vs := ws) (T := e) ?_ rfl rfl hle.1 g4.1 g4.2.1 (fun i e j x v q1 q2 q3 => (g4.2.2.1 i e j x v q1 q2 q3).mono hl) (by rw [hL]; omega) (fun _ => hL) g4.2.2.2
              rw [hw]
              show (c.w.heap.push _)[c.w.heap.size]? = _
              simp
            · have := VR.sl (c := c') (id := k) (off := 0) (len := len) (cap := len) hφ (Nat.le_refl _) hle.1 (by have := g4.1; rw [hlen] at this; simp only [Nat.zero_mul, Nat.zero_add] at this ⊢; omega)
              simpa [NK.val] using this
          · exact hk.elim
        · exact hk.elim
      · exact hk.elim
    · exact hk.elim
  case makeMap t r =>
    cases r with
    | some x => simp [newOp] at hn
    | none =>
      refine ⟨_, .map, rfl, hk, fun h' K' hk' => hk', fun c ρ hρ => ?_⟩
      refine ⟨.map #[] 0, .map (some c.w.heap.size), ⟨c.w.heap.size, 0, 0, 0⟩, rfl, rfl, fun c' k hle hw hL hφ => ⟨.map (ents := #[]) ?_ hL rfl (fun i k v n e a => by simp at a), VR.map (l := ⟨c.w.heap.size, 0, 0, 0⟩) hφ⟩⟩
      rw [hw]
      show (c.w.heap.push _)[c.w.heap.size]? = _
      simp

/-- An operation hangs on its operands alone. -/
theorem aop_congr {ρ ρ' : Operand → AV} {o : Oper} {K : ANext → AH → Prop} (he : ∀ x ∈ o.op.operands, ρ x = ρ' x) : aop T F ρ h o K = aop T F ρ' h o K := by
  obtain ⟨dst, op, ty, pos, after, guard⟩ := o
  have pairs : ∀ ps : Array (Nat × Operand), (∀ p ∈ ps.toList, ρ p.2 = ρ' p.2) → (ps.toList.map fun p => (p.1, ρ p.2)) = (ps.toList.map fun p => (p.1, ρ' p.2)) := fun ps hp =>
    List.map_congr_left fun p hm => by rw [hp p hm]
  have arr : ∀ xs : Array Operand, (∀ x ∈ xs.toList, ρ x = ρ' x) → xs.toList.map ρ = xs.toList.map ρ' := fun xs hx => List.map_congr_left hx
  cases op <;> simp only [aop]
  all_goals simp only [Op.operands] at he
  case move x => rw [he x (by simp)]
  case assign x => rw [he x (by simp)]
  case pick x a b => rw [he x (by simp), he a (by simp), he b (by simp)]
  case box t x => rw [he x (by simp)]
  case build t ps => rw [pairs ps fun p hp => he _ (by simp; exact ⟨p.1, by simpa using hp⟩)]
  case buildSlice t n ps => rw [pairs ps fun p hp => he _ (by simp; exact ⟨p.1, by simpa using hp⟩)]
  case load t x => rw [he x (by simp)]
  case store t x y => rw [he x (by simp), he y (by simp)]
  case nilCheck x => rw [he x (by simp)]
  case binOp op t x y t' => rw [he x (by simp), he y (by simp)]
  case unOp op t x => rw [he x (by simp)]
  case convert s d x => rw [he x (by simp)]
  case makeInterface t x => rw [he x (by simp)]
  case makeFunc f a b => rw [arr a fun x hx => he x (by simp; exact .inl (by simpa using hx)), arr b fun x hx => he x (by simp; exact .inr (by simpa using hx))]
  case makeMap t r =>
    cases r with
    | none => rfl
    | some x => rw [Option.map_some, Option.map_some, he x (by simp)]
  case slice t x lo hi mx =>
    cases mx with
    | some m => rfl
    | none =>
      have e1 : lo.map ρ = lo.map ρ' := by cases lo with | none => rfl | some y => rw [Option.map_some, Option.map_some, he y (by simp)]
      have e2 : hi.map ρ = hi.map ρ' := by cases hi with | none => rfl | some y => rw [Option.map_some, Option.map_some, he y (by simp)]
      simp only [e1, e2, he x (by simp)]
  case fieldAddr t x f => rw [he x (by simp)]
  case field t x f => rw [he x (by simp)]
  case indexAddr t x i => rw [he x (by simp), he i (by simp)]
  case index t x i => rw [he x (by simp), he i (by simp)]
  case lookup t x i ok => rw [he x (by simp), he i (by simp)]
  case mapUpdate t m k v => rw [he m (by simp), he k (by simp), he v (by simp)]
  case insert t m k v => rw [he m (by simp), he k (by simp), he v (by simp)]
  case typeAssert x xt t ok => rw [he x (by simp)]
  case extract x i => rw [he x (by simp)]
  case panic x => rw [he x (by simp)]
  case call cl =>
    obtain ⟨callee, xs, ts⟩ := cl
    cases callee with
    | builtin b => simp only [aop]; rw [arr xs fun x hx => he x (by simp [Call.operands]; simpa using hx)]
    | value f => simp only [aop]; rw [arr xs fun x hx => he x (by simp [Call.operands]; exact .inr (by simpa using hx)), he f (by simp [Call.operands])]
    | invoke r n => rfl
  case defer cl =>
    obtain ⟨callee, xs, ts⟩ := cl
    cases callee with
    | builtin b => rfl
    | value f => simp only [aop]; rw [arr xs fun x hx => he x (by simp [Call.operands]; exact .inr (by simpa using hx)), he f (by simp [Call.operands])]
    | invoke r n => rfl

end
end Go.Vm


/- The abstract machine, part 18: regions that draw their order: what is asked of the text, and the run in the text's order. -/
namespace Go.Vm
open Go

/-- What must have been done ahead of operation 'o', by the text's own edges. -/
def depsOf (o : Oper) : List Nat := (o.after.toList.filter (Region.binds .any)).map (·.on)

/-- For each operation the set (as bits) of all that must have been done ahead of it. -/
def masks : List Oper → List Nat → List Nat
  | [], acc => acc
  | o :: l, acc => masks l (acc ++ [(depsOf o).foldl (fun m d => m ||| 2 ^ d ||| acc.getD d 0) 0])

def lexOK (all : Array Oper) (p : Nat) : Bool :=
  let ms := masks all.toList []
  let n := all.size
  let bef := fun i j => (ms.getD j 0).testBit i
  decide (p ≤ n) &&
  (List.range n).all (fun i => (depsOf (all.getD i default)).all (· < i)) &&
  (List.range n).all (fun j => j < p || (List.range j).all fun i => bef i j) &&
  (List.range p).all (fun i => (List.range p).all fun j => i == j ||
    (match (all.getD j default).dst with
     | some d => (!((all.getD i default).looksAt all).contains d || (if j < i then bef j i else bef i j)) && (all.getD i default).dst != some d
     | none => true))

/-- 'i' must have been done ahead of 'j'. -/
inductive Anc (all : Array Oper) : Nat → Nat → Prop
  | base {i j o} (ho : all[j]? = some o) (hd : i ∈ depsOf o) : Anc all i j
  | step {i m j o} (ho : all[j]? = some o) (hd : m ∈ depsOf o) (h : Anc all i m) : Anc all i j

theorem foldl_or_testBit (ds : List Nat) (acc : List Nat) : ∀ (m i : Nat), (ds.foldl (fun m d => m ||| 2 ^ d ||| acc.getD d 0) m).testBit i = true → m.testBit i = true ∨ ∃ d ∈ ds, i = d ∨ (acc.getD d 0).testBit i = true := by
  induction ds with
  | nil => intro m i h; exact .inl h
  | cons d ds ih =>
    intro m i h
    simp only [List.foldl_cons] at h
    rcases ih _ i h with h' | ⟨d', h1, h2⟩
    · rw [Nat.testBit_or, Nat.testBit_or, Bool.or_eq_true, Bool.or_eq_true, Nat.testBit_two_pow] at h'
      rcases h' with (h' | h') | h'
      · exact .inl h'
      · exact .inr ⟨d, List.mem_cons_self .., .inl (by simpa using (of_decide_eq_true h').symm)⟩
      · exact .inr ⟨d, List.mem_cons_self .., .inr h'⟩
    · exact .inr ⟨d', List.mem_cons_of_mem _ h1, h2⟩

theorem masks_sound (all : Array Oper) : ∀ (l : List Oper) (acc : List Nat), (∀ j, l[j]? = all[acc.length + j]?) → (∀ i j, (acc.getD j 0).testBit i = true → Anc all i j) → ∀ i j, ((masks l acc).getD j 0).testBit i = true → Anc all i j := by
  intro l
  induction l with
  | nil => intro acc _ h i j hb; exact h i j hb
  | cons o l ih =>
    intro acc hl h i j hb
    refine ih _ (fun j => ?_) (fun i j hb => ?_) i j hb
    · have := hl (j + 1)
      simpa [Nat.add_assoc, Nat.add_comm 1 j] using this
    · rcases Nat.lt_trichotomy j acc.length with hj | hj | hj
      · refine h i j ?_
        simp only [List.getD_eq_getElem?_getD] at hb ⊢
        rwa [List.getElem?_append_left hj] at hb
      · subst hj
        have ho : all[acc.length]? = some o := by have := hl 0; simpa using this.symm
        simp only [List.getD_eq_getElem?_getD] at hb
        rw [List.getElem?_append_right (Nat.le_refl _), Nat.sub_self] at hb
        simp only [List.getElem?_cons_zero, Option.getD_some] at hb
        rcases foldl_or_testBit (depsOf o) acc 0 i (by simpa only [List.getD_eq_getElem?_getD] using hb) with h' | ⟨d, h1, rfl | h2⟩
        · simp at h'
        · exact .base ho h1
        · exact .step ho h1 (h i d h2)
      · simp only [List.getD_eq_getElem?_getD] at hb
        rw [List.getElem?_append_right (by omega)] at hb
        rw [List.getElem?_eq_none (by simp; omega)] at hb
        simp at hb

/-- What 'lexOK' says. -/
structure Lex (all : Array Oper) (p : Nat) : Prop where
  le : p ≤ all.size
  edge : ∀ (i : Nat) (o : Oper), all[i]? = some o → ∀ d ∈ depsOf o, d < i
  tail : ∀ i j, p ≤ j → j < all.size → i < j → Anc all i j
  looks : ∀ (i j : Nat) (x y : Oper) (d : Tmp), i < p → j < p → i ≠ j → all[i]? = some x → all[j]? = some y → y.dst = some d → d ∈ x.looksAt all → (j < i → Anc all j i) ∧ (i < j → Anc all i j)
  once : ∀ (i j : Nat) (x y : Oper) (d : Tmp), i < p → j < p → i ≠ j → all[i]? = some x → all[j]? = some y → y.dst = some d → x.dst ≠ some d

theorem lexOK_spec {all : Array Oper} {p : Nat} (h : lexOK all p = true) : Lex all p := by
  have hm := masks_sound all all.toList [] (by simp) (by simp)
  simp only [lexOK, Bool.and_eq_true, decide_eq_true_eq, List.all_eq_true, List.mem_range, Bool.or_eq_true] at h
  obtain ⟨⟨⟨h1, h2⟩, h3⟩, h4⟩ := h
  have hget : ∀ (i : Nat) (o : Oper), all[i]? = some o → all.getD i default = o ∧ i < all.size := fun i o ho => by
    have hi := (Array.getElem?_eq_some_iff.1 ho)
    obtain ⟨hlt, he⟩ := hi
    exact ⟨by simp [Array.getD, hlt, he], hlt⟩
  refine ⟨h1, fun i o ho d hd => ?_, fun i j hj hjn hij => ?_, fun i j x y d hi hj hne hx hy hd hl => ?_, fun i j x y d hi hj hne hx hy hd => ?_⟩
  · obtain ⟨e, hlt⟩ := hget i o ho
    have := h2 i hlt d (by rw [e]; exact hd)
    exact this
  · rcases h3 j hjn with h' | h'
    · omega
    · exact hm i j (h' i hij)
  · have := h4 i hi j hj
    rw [(hget j y hy).1, (hget i x hx).1, hd] at this
    rcases this with h' | h'
    · simp at h'; exact absurd h' hne
    · simp only [Bool.and_eq_true, Bool.or_eq_true] at h'
      rcases h'.1 with h'' | h''
      · simp at h''; exact absurd hl h''
      · refine ⟨fun hlt => ?_, fun hlt => ?_⟩
        · rw [if_pos hlt] at h''; exact hm j i h''
        · rw [if_neg (by omega)] at h''; exact hm i j h''
  · have := h4 i hi j hj
    rw [(hget j y hy).1, (hget i x hx).1, hd] at this
    rcases this with h' | h'
    · simp at h'; exact absurd h' hne
    · simp only [Bool.and_eq_true] at h'
      simpa using h'.2

/-! ### The run in the text's order -/
def QAfter (R : AAct → AH → Prop) (a : AAct) (dst : Option Tmp) : ANext → AH → Prop
  | .val v, h => R (a.put dst v) h
  | _, _ => False

/-- A call that asks for no block. -/
def QCall (P : Program) (g : FuncId) (args : List AV) (R : AAct → AH → Prop) (a : AAct) (dst : Option Tmp) (h : AH) : Prop :=
  ∃ x, (∀ y ∈ args, Closed y) ∧ Closed x ∧ ACalls P g args [] (fun r _ => r = .ret x) ∧ R (a.put dst x) h

/-- The function that an operation calls, and with what. -/
def callOf (F : FTab) (ρ : Operand → AV) (o : Oper) : Option (FuncId × List AV) :=
  match o.op with
  | .call { callee := .value f, args := xs, .. } => (match ρ f with
    | .fn (.func g) first captured => (match F g with
      | some _ => some (g, first ++ xs.toList.map ρ ++ captured)
      | none => none)
    | _ => none)
  | _ => none

/-- A slice that is built of cells that hang on no block: in such a region its row is pure data at once. -/
@[simp] def rowOp : Op → Bool
  | .buildSlice .. => true
  | _ => false

theorem rowOp_new {op : Op} (h : rowOp op = true) : newOp op = true := by cases op <;> simp_all [rowOp, newOp]

@[simp] def QRowK (R : AAct → AH → Prop) (a : AAct) (dst : Option Tmp) (h : AH) : ANext → AH → Prop
  | .val (.sl _ _ n), [.arr sz es false] => n = es.length ∧ (∀ e ∈ es, ∀ y ∈ e, Closed y) ∧ R (a.put dst (.ro sz es)) h
  | _, _ => False

theorem QRowK.spec {R : AAct → AH → Prop} {a : AAct} {dst : Option Tmp} {h : AH} {nk : NK} {b : AB} (hq : QRowK R a dst h (.val (nk.val 0)) [b]) :
    ∃ sz es, nk = .sl es.length ∧ b = .arr sz es false ∧ (∀ e ∈ es, ∀ y ∈ e, Closed y) ∧ R (a.put dst (.ro sz es)) h := by
  cases nk <;> simp only [NK.val] at hq
  · exact hq.elim
  · unfold QRowK at hq
    split at hq
    · rename_i e1 e2
      obtain ⟨h1, h2, h3⟩ := hq
      cases e1
      cases e2
      exact ⟨_, _, by rw [h1], rfl, h2, h3⟩
    · exact hq.elim
  · exact hq.elim

def qop (P : Program) (T : Tab) (F : FTab) (o : Oper) (R : AAct → AH → Prop) (a : AAct) (h : AH) : Prop :=
  if rowOp o.op = true then aop T F (ev a.tmps) [] o (QRowK R a o.dst h)
  else if (quietOp o.op || newOp o.op) = true then aop T F (ev a.tmps) h o (QAfter R a o.dst)
  else match callOf F (ev a.tmps) o with
    | some (g, args) => QCall P g args R a o.dst h
    | none => False

def qrun (P : Program) (T : Tab) (F : FTab) (all : Array Oper) (K : AAct → AH → Prop) : List Oper → AAct → AH → Prop
  | [], a, h => K a h
  | o :: l, a, h => (match o.guard with
    | none => qop P T F o (qrun P T F all K l) a h
    | some (j, want) => (match yieldA all a.tmps j with
      | some (some b) => if (b == want) = true then qop P T F o (qrun P T F all K l) a h else qrun P T F all K l (a.put o.dst .undef) h
      | some none => qrun P T F all K l (a.put o.dst .undef) h
      | none => False))

/-- Is the operation carried out? -/
def OnA (all : Array Oper) (o : Oper) (a : AAct) (on : Bool) : Prop :=
  match o.guard with
  | none => on = true
  | some (j, want) => ∃ r, yieldA all a.tmps j = some r ∧ on = (r == some want)

/-- One step of the run in the text's order: the value, and perhaps a new block. -/
inductive QStep (P : Program) (T : Tab) (F : FTab) (all : Array Oper) (o : Oper) (a : AAct) (h : AH) : AV → Option AB → Prop
  | off (hon : OnA all o a false) : QStep P T F all o a h .undef none
  | quiet {x} (hon : OnA all o a true) (hq : quietOp o.op = true) (hk : aop T F (ev a.tmps) h o fun nx _ => nx = .val x) : QStep P T F all o a h x none
  | new {b : AB} {nk : NK} (hon : OnA all o a true) (hn : newOp o.op = true) (hb : b.live = true) (hk : aop T F (ev a.tmps) h o fun nx h' => nx = .val (nk.val h.length) ∧ h' = h ++ [b]) : QStep P T F all o a h (nk.val h.length) (some b)
  | row {sz : Nat} {es : List (List AV)} (hon : OnA all o a true) (hn : newOp o.op = true) (hcl : ∀ e ∈ es, ∀ y ∈ e, Closed y) (hk : aop T F (ev a.tmps) [] o fun nx h' => nx = .val ((NK.sl es.length).val 0) ∧ h' = [.arr sz es false]) : QStep P T F all o a h (.ro sz es) none
  | call {g args x} (hon : OnA all o a true) (hc : callOf F (ev a.tmps) o = some (g, args)) (ha : ∀ y ∈ args, Closed y) (hx : Closed x) (hk : ACalls P g args [] (fun r _ => r = .ret x)) : QStep P T F all o a h x none

/-- The states one behind the other. -/
inductive QTr (P : Program) (T : Tab) (F : FTab) (all : Array Oper) (K : AAct → AH → Prop) : List Oper → AAct → AH → List (AV × Option AB) → Prop
  | nil {a h} (hk : K a h) : QTr P T F all K [] a h []
  | cons {o l a h x b vs} (hs : QStep P T F all o a h x b) (ht : QTr P T F all K l (a.put o.dst x) (h ++ b.toList) vs) : QTr P T F all K (o :: l) a h ((x, b) :: vs)

theorem qrun_trace {P : Program} {T : Tab} {F : FTab} (hT : T.OK P) {all : Array Oper} {K : AAct → AH → Prop} : ∀ {l : List Oper} {a : AAct} {h : AH}, qrun P T F all K l a h → ∃ vs, QTr P T F all K l a h vs := by
  intro l
  induction l with
  | nil => intro a h hk; exact ⟨[], .nil hk⟩
  | cons o l ih =>
    intro a h hk
    have on : OnA all o a true → qop P T F o (qrun P T F all K l) a h → ∃ vs, QTr P T F all K (o :: l) a h vs := by
      intro hon hq
      unfold qop at hq
      split at hq
      · rename_i hc
        obtain ⟨b, nk, hb, h1, h2, _⟩ := aop_new hT (rowOp_new hc) hq
        obtain ⟨sz, es, rfl, rfl, q1, q2⟩ := QRowK.spec h1
        obtain ⟨vs, hvs⟩ := ih q2
        exact ⟨_, .cons (.row hon (rowOp_new hc) q1 (h2 [] _ ⟨rfl, rfl⟩)) (by simpa using hvs)⟩
      split at hq
      · rename_i hc
        rw [Bool.or_eq_true] at hc
        rcases hc with hc | hc
        · obtain ⟨x, h1, h2⟩ := aop_quiet hc hq
          obtain ⟨vs, hvs⟩ := ih h1
          exact ⟨_, .cons (.quiet hon hc (h2 _ rfl)) (by simpa using hvs)⟩
        · obtain ⟨b, nk, hb, h1, h2, _⟩ := aop_new hT hc hq
          obtain ⟨vs, hvs⟩ := ih h1
          exact ⟨_, .cons (.new hon hc hb (h2 h _ ⟨rfl, rfl⟩)) (by simpa using hvs)⟩
      · split at hq
        · rename_i g args hc
          obtain ⟨x, q1, q2, q3, q4⟩ := hq
          obtain ⟨vs, hvs⟩ := ih q4
          exact ⟨_, .cons (.call hon hc q1 q2 q3) (by simpa using hvs)⟩
        · exact hq.elim
    have off : OnA all o a false → qrun P T F all K l (a.put o.dst .undef) h → ∃ vs, QTr P T F all K (o :: l) a h vs := by
      intro hon hq
      obtain ⟨vs, hvs⟩ := ih hq
      exact ⟨_, .cons (.off hon) (by simpa using hvs)⟩
    simp only [qrun] at hk
    cases hg : o.guard with
    | none => rw [hg] at hk; exact on (by simp [OnA, hg]) hk
    | some g =>
      obtain ⟨j, want⟩ := g
      rw [hg] at hk
      simp only at hk
      cases hy : yieldA all a.tmps j with
      | none => rw [hy] at hk; exact hk.elim
      | some r =>
        rw [hy] at hk
        cases r with
        | none => exact off (by simp [OnA, hg, hy]) hk
        | some b =>
          simp only at hk
          by_cases hb : (b == want) = true
          · rw [if_pos hb] at hk; exact on (by simp only [OnA, hg]; exact ⟨_, hy, by simp at hb; simp [hb]⟩) hk
          · rw [if_neg hb] at hk; exact off (by simp only [OnA, hg]; exact ⟨_, hy, by simp at hb; simp [hb]⟩) hk

end Go.Vm


/- The abstract machine, part 19: a region that draws its order comes, whatever the order, to what the text's order comes to. -/
namespace Go.Vm
open Go

/-- The blocks that are made. -/
def newsL (vs : List (AV × Option AB)) : List AB := vs.flatMap fun p => p.2.toList

def puts (l : List Oper) (vs : List (AV × Option AB)) (a : AAct) : AAct :=
  match l, vs with
  | o :: l, v :: vs => puts l vs (a.put o.dst v.1)
  | _, _ => a

section
variable {P : Program} {T : Tab} {F : FTab} {all : Array Oper}

theorem puts_defers (l : List Oper) : ∀ (vs : List (AV × Option AB)) (a : AAct), (puts l vs a).defers = a.defers := by
  induction l with
  | nil => intro vs a; cases vs <;> rfl
  | cons o l ih =>
    intro vs a
    cases vs with
    | nil => rfl
    | cons v vs => simp only [puts, ih]; cases o.dst <;> rfl

theorem QTr.at {K : AAct → AH → Prop} {l : List Oper} {a : AAct} {h : AH} {vs : List (AV × Option AB)} (ht : QTr P T F all K l a h vs) :
    vs.length = l.length ∧ K (puts l vs a) (h ++ newsL vs) ∧
      ∀ (i : Nat) (o : Oper) (x : AV) (b : Option AB), l[i]? = some o → vs[i]? = some (x, b) → QStep P T F all o (puts (l.take i) (vs.take i) a) (h ++ newsL (vs.take i)) x b := by
  induction ht with
  | nil hk => exact ⟨rfl, by simpa [puts, newsL] using hk, fun i o x b h => by simp at h⟩
  | cons hs ht ih =>
    obtain ⟨h1, h2, h3⟩ := ih
    refine ⟨by simp [h1], by simpa [puts, newsL] using h2, fun i o x b e1 e2 => ?_⟩
    cases i with
    | zero =>
      simp at e1 e2
      obtain ⟨rfl, rfl⟩ := e2
      subst e1
      simpa [puts, newsL] using hs
    | succ i =>
      have := h3 i o x b (by simpa using e1) (by simpa using e2)
      simpa [puts, newsL] using this

/-- The temporaries, where the operations 'done' have been carried out. -/
structure Cur (l : List Oper) (vs : List (AV × Option AB)) (tmps0 : List AV) (done : Nat → Prop) (tl : List AV) : Prop where
  len : tl.length = tmps0.length
  yes : ∀ (i : Nat) (o : Oper) (x : AV) (b : Option AB) (t : Tmp), l[i]? = some o → vs[i]? = some (x, b) → done i → o.dst = some t → t < tmps0.length → tl[t]? = some x
  no : ∀ (t : Tmp), (∀ (i : Nat) (o : Oper), l[i]? = some o → o.dst = some t → ¬ done i) → tl[t]? = tmps0[t]?

theorem Cur.step {l : List Oper} {vs : List (AV × Option AB)} {tmps0 tl : List AV} {done done' : Nat → Prop} (hc : Cur l vs tmps0 done tl) (hvl : vs.length = l.length)
    (honce : ∀ (i j : Nat) (x y : Oper) (d : Tmp), i ≠ j → l[i]? = some x → l[j]? = some y → y.dst = some d → x.dst ≠ some d)
    {i : Nat} {o : Oper} {x : AV} {b : Option AB} (ho : l[i]? = some o) (hx : vs[i]? = some (x, b)) (hd : ∀ j, done' j ↔ done j ∨ j = i) {a : AAct} (ha : a.tmps = tl) : Cur l vs tmps0 done' (a.put o.dst x).tmps := by
  subst ha
  cases hdst : o.dst with
  | none =>
    refine ⟨hc.len, fun j o' x' b' t e1 e2 e3 e4 e5 => ?_, fun t ht => hc.no t fun j o' e1 e2 e3 => ht j o' e1 e2 ((hd j).2 (.inl e3))⟩
    rcases (hd j).1 e3 with h' | h'
    · exact hc.yes j o' x' b' t e1 e2 h' e4 e5
    · subst h'; rw [ho] at e1; cases e1; rw [hdst] at e4; cases e4
  | some d =>
    refine ⟨by simp [AAct.put, hc.len], fun j o' x' b' t e1 e2 e3 e4 e5 => ?_, fun t ht => ?_⟩
    · show (a.tmps.set d x)[t]? = some x'
      rcases (hd j).1 e3 with h' | h'
      · by_cases hji : j = i
        · subst hji
          rw [ho] at e1; cases e1
          rw [hdst] at e4; cases e4
          rw [hx] at e2; cases e2
          rw [List.getElem?_set_self (by rw [hc.len]; exact e5)]
        · have hne : t ≠ d := fun e => by
            subst e
            exact honce j i o' o t hji e1 ho hdst e4
          rw [List.getElem?_set_ne (Ne.symm hne)]
          exact hc.yes j o' x' b' t e1 e2 h' e4 e5
      · subst h'
        rw [ho] at e1; cases e1
        rw [hdst] at e4; cases e4
        rw [hx] at e2; cases e2
        rw [List.getElem?_set_self (by rw [hc.len]; exact e5)]
    · show (a.tmps.set d x)[t]? = _
      have hne : t ≠ d := fun e => by
        subst e
        exact ht i o ho hdst ((hd i).2 (.inr rfl))
      rw [List.getElem?_set_ne (Ne.symm hne)]
      exact hc.no t fun j o' e1 e2 e3 => ht j o' e1 e2 ((hd j).2 (.inl e3))

theorem puts_take_succ (l : List Oper) : ∀ (vs : List (AV × Option AB)) (a : AAct) (i : Nat) (o : Oper) (v : AV × Option AB), l[i]? = some o → vs[i]? = some v →
    puts (l.take (i + 1)) (vs.take (i + 1)) a = (puts (l.take i) (vs.take i) a).put o.dst v.1 := by
  induction l with
  | nil => intro vs a i o v h; simp at h
  | cons p l ih =>
    intro vs a i o v h1 h2
    cases vs with
    | nil => simp at h2
    | cons w vs =>
      cases i with
      | zero => simp at h1 h2; subst h1; subst h2; simp [puts]
      | succ i => simp at h1 h2; simpa [puts] using ih vs (a.put p.dst w.1) i o v h1 h2

theorem cur_text {l : List Oper} {vs : List (AV × Option AB)} {a : AAct} (hvl : vs.length = l.length)
    (honce : ∀ (i j : Nat) (x y : Oper) (d : Tmp), i ≠ j → l[i]? = some x → l[j]? = some y → y.dst = some d → x.dst ≠ some d) :
    ∀ i, i ≤ l.length → Cur l vs a.tmps (· < i) (puts (l.take i) (vs.take i) a).tmps := by
  intro i
  induction i with
  | zero => intro _; exact ⟨by simp [puts], fun i o x b t _ _ h => absurd h (Nat.not_lt_zero i), fun t _ => by simp [puts]⟩
  | succ i ih =>
    intro hi
    have ho := List.getElem?_eq_getElem (show i < l.length by omega)
    have hv := List.getElem?_eq_getElem (show i < vs.length by omega)
    rw [puts_take_succ l vs a i _ _ ho hv]
    exact (ih (by omega)).step hvl honce ho (x := vs[i].1) (b := vs[i].2) hv (fun j => by omega) rfl

/-- Two states agree on a temporary whose writers have been carried out in both or in neither. -/
theorem Cur.agree {l : List Oper} {vs : List (AV × Option AB)} {tmps0 t1 t2 : List AV} {d1 d2 : Nat → Prop} (hvl : vs.length = l.length) (h1 : Cur l vs tmps0 d1 t1) (h2 : Cur l vs tmps0 d2 t2)
    (honce : ∀ (i j : Nat) (x y : Oper) (d : Tmp), i ≠ j → l[i]? = some x → l[j]? = some y → y.dst = some d → x.dst ≠ some d)
    {t : Tmp} (ht : ∀ (j : Nat) (o : Oper), l[j]? = some o → o.dst = some t → (d1 j ↔ d2 j)) : t1[t]? = t2[t]? := by
  by_cases hlt : t < tmps0.length
  · by_cases hex : ∃ (j : Nat) (o : Oper), l[j]? = some o ∧ o.dst = some t ∧ d1 j
    · obtain ⟨j, o, e1, e2, e3⟩ := hex
      have hj : j < vs.length := by rw [hvl]; exact (List.getElem?_eq_some_iff.1 e1).1
      have hv : vs[j]? = some (vs[j].1, vs[j].2) := List.getElem?_eq_getElem hj
      rw [h1.yes j o _ _ t e1 hv e3 e2 hlt, h2.yes j o _ _ t e1 hv ((ht j o e1 e2).1 e3) e2 hlt]
    · rw [h1.no t fun j o e1 e2 e3 => hex ⟨j, o, e1, e2, e3⟩, h2.no t fun j o e1 e2 e3 => hex ⟨j, o, e1, e2, (ht j o e1 e2).2 e3⟩]
  · rw [List.getElem?_eq_none (by rw [h1.len]; exact Nat.le_of_not_lt hlt), List.getElem?_eq_none (by rw [h2.len]; exact Nat.le_of_not_lt hlt)]

/-! ### The blocks' places -/
def slotOf (m : Nat) (vs : List (AV × Option AB)) (i : Nat) : Nat := m + (newsL (vs.take i)).length

theorem newsL_get (vs : List (AV × Option AB)) : ∀ (k : Nat) (b : AB), (newsL vs)[k]? = some b → ∃ (i : Nat) (x : AV), vs[i]? = some (x, some b) ∧ (newsL (vs.take i)).length = k := by
  induction vs with
  | nil => intro k b h; simp [newsL] at h
  | cons v vs ih =>
    intro k b h
    obtain ⟨x, ob⟩ := v
    cases ob with
    | none =>
      have h' : (newsL vs)[k]? = some b := by simpa [newsL] using h
      obtain ⟨i, y, e1, e2⟩ := ih k b h'
      exact ⟨i + 1, y, by simpa using e1, by simpa [newsL] using e2⟩
    | some b0 =>
      have h' : (b0 :: newsL vs)[k]? = some b := by simpa [newsL] using h
      cases k with
      | zero => simp at h'; subst h'; exact ⟨0, x, rfl, by simp [newsL]⟩
      | succ k =>
        obtain ⟨i, y, e1, e2⟩ := ih k b (by simpa using h')
        exact ⟨i + 1, y, by simpa using e1, by simp only [List.take_succ_cons, newsL, List.flatMap_cons, List.length_append]; simp only [newsL] at e2; rw [e2]; simp; omega⟩

theorem newsL_slot {vs : List (AV × Option AB)} {i : Nat} {x : AV} {b : AB} (h : vs[i]? = some (x, some b)) : (newsL vs)[(newsL (vs.take i)).length]? = some b := by
  have hi := (List.getElem?_eq_some_iff.1 h).1
  have hsplit : vs = vs.take i ++ (x, some b) :: vs.drop (i + 1) := by
    have : vs.drop i = (x, some b) :: vs.drop (i + 1) := by
      rw [List.drop_eq_getElem_cons hi]
      congr 1
      exact (List.getElem?_eq_some_iff.1 h).2
    rw [← this, List.take_append_drop]
  have : newsL vs = newsL (vs.take i) ++ b :: newsL (vs.drop (i + 1)) := by
    conv => lhs; rw [hsplit]
    simp [newsL]
  rw [this, List.getElem?_append_right (Nat.le_refl _), Nat.sub_self]
  rfl

theorem newsL_take_lt {vs : List (AV × Option AB)} {i j : Nat} {x : AV} {b : AB} (h : vs[i]? = some (x, some b)) (hij : i < j) : (newsL (vs.take i)).length < (newsL (vs.take j)).length := by
  have h' : (vs.take j)[i]? = some (x, some b) := by rw [List.getElem?_take_of_lt hij]; exact h
  have := newsL_slot h'
  have h2 := (List.getElem?_eq_some_iff.1 this).1
  rwa [List.take_take, Nat.min_eq_left (by omega)] at h2

/-- The heap, where the operations 'done' have been carried out. -/
structure HeapAt (h0 : AH) (vs : List (AV × Option AB)) (done : Nat → Prop) (g : AH) (φ : Nat → Option Loc) : Prop where
  len : g.length = (h0 ++ newsL vs).length
  old : ∀ k, k < h0.length → g[k]? = h0[k]?
  yes : ∀ (i : Nat) (x : AV) (b : AB), vs[i]? = some (x, some b) → done i → g[slotOf h0.length vs i]? = some b
  no : ∀ (i : Nat) (x : AV) (b : AB), vs[i]? = some (x, some b) → ¬ done i → g[slotOf h0.length vs i]? = some .dead ∧ φ (slotOf h0.length vs i) = none

theorem HeapAt.full {h0 g : AH} {vs : List (AV × Option AB)} {done : Nat → Prop} {φ : Nat → Option Loc} (hh : HeapAt h0 vs done g φ) (hd : ∀ i, i < vs.length → done i) : g = h0 ++ newsL vs := by
  apply List.ext_getElem?
  intro k
  rcases Nat.lt_or_ge k h0.length with hk | hk
  · rw [hh.old k hk, List.getElem?_append_left hk]
  · rw [List.getElem?_append_right hk]
    cases hb : (newsL vs)[k - h0.length]? with
    | none =>
      rw [List.getElem?_eq_none]
      rw [hh.len, List.length_append]
      have := List.getElem?_eq_none_iff.1 hb
      omega
    | some b =>
      obtain ⟨i, x, e1, e2⟩ := newsL_get vs _ b hb
      have := hh.yes i x b e1 (hd i (List.getElem?_eq_some_iff.1 e1).1)
      rw [slotOf, e2, show h0.length + (k - h0.length) = k by omega] at this
      exact this

/-- What the text's heap says ahead of operation 'i' can be read, whatever has been carried out. -/
theorem HeapAt.rd {c : Cx} {h0 g : AH} {vs : List (AV × Option AB)} {done : Nat → Prop} (hh : HeapAt h0 vs done g c.φ) (hs : Sim c g) (i : Nat) : Rd c (h0 ++ newsL (vs.take i)) := by
  intro id b l e1 e2 e3
  rcases Nat.lt_or_ge id h0.length with hk | hk
  · rw [List.getElem?_append_left hk] at e1
    exact hs.rd id b l (by rw [hh.old id hk]; exact e1) e2 e3
  · rw [List.getElem?_append_right hk] at e1
    obtain ⟨j, x, f1, f2⟩ := newsL_get _ _ b e1
    have hji : j < i := by
      have := (List.getElem?_eq_some_iff.1 f1).1
      simp at this; omega
    rw [List.getElem?_take_of_lt hji] at f1
    rw [List.take_take, Nat.min_eq_left (by omega)] at f2
    have hslot : slotOf h0.length vs j = id := by rw [slotOf, f2]; omega
    by_cases hdj : done j
    · have := hh.yes j x b f1 hdj
      rw [hslot] at this
      exact hs.rd id b l this e2 e3
    · have := (hh.no j x b f1 hdj).2
      rw [hslot, e3] at this; cases this

end
end Go.Vm


/- The abstract machine, part 20: the law of the regions that draw their order. -/
namespace Go.Vm
open Go

section
variable {P : Program} {T : Tab} {F : FTab}

theorem callOf_sound (hF : F.OK P) {c : Cx} {ρa : Operand → AV} {ρ : Operand → Value} {o : Oper} {g : FuncId} {args : List AV} (hρ : ∀ x, VR c (ρa x) (ρ x)) (hc : callOf F ρa o = some (g, args)) :
    ∃ vs : Array Value, (execOp ρ o).run P c.w = .ok (.enter g vs) c.w ∧ VRs c args vs.toList := by
  obtain ⟨dst, op, ty, pos, after, guard⟩ := o
  have hm : ∀ xs : Array Operand, VRs c (xs.toList.map ρa) (xs.map ρ).toList := fun xs => by
    rw [Array.toList_map]; exact VRs.map hρ xs.toList
  unfold callOf at hc
  split at hc
  · rename_i f xs ts hop
    simp only at hop
    subst hop
    have hf := hρ f
    split at hc
    · rename_i g' first captured e
      rw [e] at hf
      split at hc
      · rename_i fi hg
        cases hc
        generalize hvf : ρ f = vf at hf
        cases hf with
        | fn h1 h2 h3 h4 =>
          rename_i fs cs
          refine ⟨fs ++ xs.map ρ ++ cs, ?_, ?_⟩
          · simp only [execOp, resolve, hvf, Deferred.ofValue, Sem.run_bind, Sem.run_pure, Result.andThen_ok, invoke]
            exact run_callFunc hF hg c.w _
          · rw [Array.toList_append, Array.toList_append]
            exact (VRs.append (VRs.of_array h1 h3) (hm xs)).append (VRs.of_array h2 h4)
      · cases hc
    · cases hc
  · cases hc

theorem callOf_congr {ρ ρ' : Operand → AV} {o : Oper} (he : ∀ x ∈ o.op.operands, ρ x = ρ' x) : callOf F ρ o = callOf F ρ' o := by
  obtain ⟨dst, op, ty, pos, after, guard⟩ := o
  unfold callOf
  split
  · rename_i f xs ts hop
    simp only at hop
    subst hop
    rw [he f (by simp [Op.operands, Call.operands]), List.map_congr_left (f := ρ) (g := ρ') fun x hx => he x (by simp [Op.operands, Call.operands]; exact .inr (by simpa using hx))]
  · rfl

/-- What is known of a call without any block, with the places kept. -/
theorem ACalls.framed {f : FuncId} {args : List AV} {h : AH} {x : AV} (ha : ∀ y ∈ args, Closed y) (hx : Closed x) (hh : ACalls P f args [] (fun r _ => r = .ret x)) {c : Cx} {vs : Array Value} (hs : Sim c h) (hv : VRs c args vs.toList) :
    Calls P f vs c.w fun e w => ∃ v, e = .returned v ∧ ∃ c' : Cx, c'.w = w ∧ c'.φ = c.φ ∧ Ext c h c' h ∧ Sim c' h ∧ VR c' x v := by
  have hs0 : Sim ⟨fun _ => none, c.L, c.w⟩ [] := ⟨fun _ _ => rfl, fun i b e => by simp at e, fun i j li lj ⟨b, e, _⟩ => by simp at e, hs.lock⟩
  have hv0 : VRs ⟨fun _ => none, c.L, c.w⟩ args vs.toList := ⟨hv.1, fun i x v a b => ha x (List.mem_of_getElem? a) c _ v (hv.2 i x v a b)⟩
  refine (hh ⟨fun _ => none, c.L, c.w⟩ vs hs0 hv0).mono fun e w ⟨c1, h1, r, q1, q2, q3, q4, q5⟩ => ?_
  subst q1
  subst q5
  have hno : ∀ b, ¬ Owns ⟨fun _ => none, c.L, c.w⟩ [] b := fun b ⟨i, l, ⟨bl, e, _⟩, _⟩ => by simp at e
  have hle : Le c ⟨c.φ, c1.L, c1.w⟩ := ⟨fun _ _ e => e, q2.le.L, q2.le.cell⟩
  cases q4 with
  | ret hr =>
    refine ⟨_, rfl, ⟨c.φ, c1.L, c1.w⟩, rfl, rfl, ⟨hle, q2.size, fun b hb _ => q2.frame b hb (hno b), fun b hb => .inr hb, q2.os, q2.tape, q2.output⟩, ⟨hs.dom, fun i b e1 e2 => ?_, hs.inj, q3.lock⟩, hx c1 c.φ _ hr⟩
    obtain ⟨l, f1, f2, f3⟩ := hs.blk i b e1 e2
    obtain ⟨g1, g2⟩ := q2.frame l.b f2 (hno _)
    exact ⟨l, f1, Nat.lt_of_lt_of_le f2 q2.size, f3.mono hle g1 g2⟩

/-- A new row of cells that hang on no block, as pure data. -/
theorem Sim.newRow {c : Cx} {g : AH} (hs : Sim c g) {ob : Obj} {v : Value} {l : Loc} {sz : Nat} {es : List (List AV)} (hl : l.b = c.w.heap.size)
    (hR : ∀ (c' : Cx) (k : Nat), Le c c' → c'.w = c.w.alloc ob → c'.L l.b = 0 → c'.φ k = some l → BR c' l (.arr sz es false) ∧ VR c' ((NK.sl es.length).val k) v) (hcl : ∀ e ∈ es, ∀ y ∈ e, Closed y) :
    ∃ c' : Cx, c'.w = c.w.alloc ob ∧ c'.φ = c.φ ∧ Sim c' g ∧ Ext c g c' g ∧ VR c' (.ro sz es) v := by
  obtain ⟨p1, p2⟩ := hs.pad 1
  have hk : (g ++ List.replicate 1 AB.dead)[g.length]? = some .dead := by simp
  have hφ : c.φ g.length = none := hs.dom _ (Nat.le_refl _)
  obtain ⟨s1, s2⟩ := p1.newAt (o := ob) (b := .arr sz es false) (l := l) (w' := c.w.alloc ob) hk hφ hl rfl rfl rfl rfl fun hle hL0 => (hR _ g.length hle rfl hL0 upd_same).1
  have hL0 : c.L l.b = 0 := by
    rcases Nat.eq_zero_or_pos (c.L l.b) with h' | h'
    · exact h'
    · have := hs.lock _ h'; omega
  obtain ⟨hB, hV⟩ := hR ⟨Vm.upd c.φ g.length l, c.L, c.w.alloc ob⟩ g.length s2.le rfl hL0 upd_same
  have hold : ∀ x, x < c.w.heap.size → (c.w.alloc ob).heap[x]? = c.w.heap[x]? := fun x hx => by
    show (c.w.heap.push ob)[x]? = _
    rw [Array.getElem?_push, if_neg (by omega)]
  have hsz : (c.w.alloc ob).heap.size = c.w.heap.size + 1 := by show (c.w.heap.push ob).size = _; simp
  let L' : Nat → Nat := fun x => if x = l.b then l.base + es.length * sz else c.L x
  have hL' : ∀ x, c.L x ≤ L' x := fun x => by
    show c.L x ≤ if x = l.b then _ else _
    split
    · rename_i e; rw [e, hL0]; exact Nat.zero_le _
    · exact Nat.le_refl _
  have hne : ∀ x, x < c.w.heap.size → L' x = c.L x := fun x hx => by
    show (if x = l.b then _ else _) = _
    rw [if_neg (by omega)]
  have hle : Le c ⟨c.φ, L', c.w.alloc ob⟩ := ⟨fun _ _ e => e, hL', fun b o ho => World.cell?_heap (hold b (hs.lock b (by omega)))⟩
  refine ⟨⟨c.φ, L', c.w.alloc ob⟩, rfl, rfl, ⟨hs.dom, fun i b e1 e2 => ?_, hs.inj, fun b hb => ?_⟩, ⟨hle, by show _ ≤ (c.w.alloc ob).heap.size; omega, fun b hb _ => ⟨hold b hb, hne b hb⟩, fun b hb => .inr hb, rfl, rfl, rfl⟩, ?_⟩
  · obtain ⟨l', f1, f2, f3⟩ := hs.blk i b e1 e2
    exact ⟨l', f1, by show _ < (c.w.alloc ob).heap.size; omega, f3.mono hle (hold _ f2) (hne _ f2)⟩
  · show b < (c.w.alloc ob).heap.size
    by_cases hbl : b = l.b
    · omega
    · have : L' b = c.L b := by show (if b = l.b then _ else _) = _; rw [if_neg hbl]
      have hb' : 0 < L' b := hb
      rw [this] at hb'
      have := hs.lock b hb'
      omega
  · have hup : Le (⟨c.φ, c.L, c.w.alloc ob⟩ : Cx) ⟨c.φ, L', c.w.alloc ob⟩ := ⟨fun _ _ e => e, hL', fun _ _ _ => rfl⟩
    cases hB with
    | arr a1 a2 a3 a4 a5 a6 a7 a8 a9 a10 =>
      rename_i vs T
      simp only [NK.val] at hV
      have hcells : ∀ (o : Nat), o = l.base → ∀ (i : Nat) (e : List AV) (j : Nat) (x : AV), es[i]? = some e → e[j]? = some x → o + i * sz + j < L' l.b ∧ (c.w.alloc ob).cell? ⟨l.b, o + i * sz + j, none⟩ = some ((vs[l.base + i * sz + j]?).getD default) ∧ ((vs[l.base + i * sz + j]?).getD default).oneCell' = true ∧ VR ⟨c.φ, L', c.w.alloc ob⟩ x ((vs[l.base + i * sz + j]?).getD default) := by
        intro o ho i e j x g1 g2
        subst ho
        have hi := (List.getElem?_eq_some_iff.1 g1).1
        have hj := (List.getElem?_eq_some_iff.1 g2).1
        rw [a6 e (List.mem_of_getElem? g1)] at hj
        have hb : i * sz + j < es.length * sz := by
          have : (i + 1) * sz ≤ es.length * sz := Nat.mul_le_mul_right _ (by omega)
          rw [Nat.add_mul, Nat.one_mul] at this
          omega
        have hlt : l.base + i * sz + j < vs.size := by omega
        have hLl : L' l.b = l.base + es.length * sz := by show (if l.b = l.b then _ else _) = _; rw [if_pos rfl]
        have hw : VR ⟨c.φ, c.L, c.w.alloc ob⟩ x (vs[l.base + i * sz + j]'hlt) := hcl e (List.mem_of_getElem? g1) x (List.mem_of_getElem? g2) _ c.φ _ (a7 i e j x _ g1 g2 (by simp [hlt]))
        refine ⟨by rw [hLl]; omega, ?_, ?_, ?_⟩
        · have a1' : (c.w.alloc ob).heap[l.b]? = some (.cells vs T (0, 0)) := a1
          simp only [World.cell?, a1']
          rw [Array.getElem?_eq_getElem hlt]
          simp
        · rw [Array.getElem?_eq_getElem hlt]
          exact a10 _ (by simp)
        · rw [Array.getElem?_eq_getElem hlt]
          exact hw.mono hup
      generalize hn : es.length = n at hV
      cases hV with
      | sl q1 q2 q3 q4 =>
        have hφl := q1
        rw [show (⟨Vm.upd c.φ g.length l, c.L, c.w.alloc ob⟩ : Cx).φ g.length = some l from upd_same] at hφl
        cases hφl
        have ho : l.base + 0 * l.sz = l.base := by omega
        exact .ro (fun i j => (vs[l.base + i * sz + j]?).getD default) hn.symm q2 a6 (fun i e j x g1 g2 => ⟨(hcells _ ho i e j x g1 g2).1, (hcells _ ho i e j x g1 g2).2.1, (hcells _ ho i e j x g1 g2).2.2.1⟩) (fun i e j x g1 g2 => (hcells _ ho i e j x g1 g2).2.2.2)
      | sl0 q1 =>
        have he : es = [] := List.length_eq_zero_iff.1 hn
        subst he
        exact .ro (fun _ _ => default) rfl (Nat.le_refl _) (fun e h => by simp at h) (fun i e j x h => by simp at h) (fun i e j x h => by simp at h)

theorem mem_depsOf {o : Oper} {d : Nat} : d ∈ depsOf o ↔ ∃ e ∈ o.after, Region.binds .any e = true ∧ e.on = d := by
  simp only [depsOf, List.mem_map, List.mem_filter]
  constructor
  · rintro ⟨e, ⟨h1, h2⟩, h3⟩; exact ⟨e, by simpa using h1, h2, h3⟩
  · rintro ⟨e, h1, h2, h3⟩; exact ⟨e, ⟨by simpa using h1, h2⟩, h3⟩

variable {all : Array Oper} {p : Nat}

def DoneL (listed : Array Bool) (i : Nat) : Prop := listed.getD i false = true

theorem getD_set {listed : Array Bool} {i j : Nat} (hi : i < listed.size) : DoneL (listed.setIfInBounds i true) j ↔ DoneL listed j ∨ j = i := by
  unfold DoneL
  by_cases h : j = i
  · subst h; simp [Array.getD, hi]
  · simp only [h, or_false, Array.getD_eq_getD_getElem?]
    rw [Array.getElem?_setIfInBounds_ne (Ne.symm h)]

theorem Anc.listed {listed : Array Bool} (hcl : ∀ i o, all[i]? = some o → DoneL listed i → ∀ d ∈ depsOf o, DoneL listed d) {i j : Nat} (h : Anc all i j) : DoneL listed j → DoneL listed i := by
  induction h with
  | base ho hd => intro hj; exact hcl _ _ ho hj _ hd
  | step ho hd _ ih => intro hj; exact ih (hcl _ _ ho hj _ hd)

theorem Anc.ready {listed : Array Bool} (hcl : ∀ i o, all[i]? = some o → DoneL listed i → ∀ d ∈ depsOf o, DoneL listed d) {i j : Nat} {o : Oper} (ho : all[j]? = some o) (hd : ∀ d ∈ depsOf o, DoneL listed d) (h : Anc all i j) : DoneL listed i := by
  cases h with
  | base ho' hd' => rw [ho] at ho'; cases ho'; exact hd _ hd'
  | step ho' hd' h' => rw [ho] at ho'; cases ho'; exact h'.listed hcl (hd _ hd')

theorem ready_iff {listed : Array Bool} (hsz : listed.size = all.size) {i : Nat} : i ∈ Region.ready .any all listed ↔ ¬ DoneL listed i ∧ ∃ o, all[i]? = some o ∧ ∀ d ∈ depsOf o, DoneL listed d := by
  rw [mem_ready]
  constructor
  · rintro ⟨h1, o, h2, h3⟩
    have hlt : i < all.size := (Array.getElem?_eq_some_iff.1 h2).1
    refine ⟨fun h => ?_, o, h2, fun d hd => ?_⟩
    · unfold DoneL at h
      simp [Array.getD, hsz, hlt] at h h1
      rw [h] at h1; cases h1
    · obtain ⟨e, a, b, rfl⟩ := mem_depsOf.1 hd
      exact h3 e a b
  · rintro ⟨h1, o, h2, h3⟩
    have hlt : i < all.size := (Array.getElem?_eq_some_iff.1 h2).1
    refine ⟨?_, o, h2, fun e he hb => h3 _ (mem_depsOf.2 ⟨e, he, hb, rfl⟩)⟩
    unfold DoneL at h1
    simp [Array.getD, hsz, hlt] at h1 ⊢
    exact h1

/-- From where the order is the text's. -/
theorem wpAny_tail (hL : Lex all p) {Q : Exit → Act → World → Prop} : ∀ (fuel q : Nat) (listed : Array Bool) (act : Act) (w : World), p ≤ q → q ≤ all.size → listed.size = all.size → (∀ i, DoneL listed i ↔ i < q) → all.size ≤ fuel + q →
    opsL P all Q (all.toList.drop q) act w → wpAny P .any all Q fuel listed act w := by
  intro fuel
  induction fuel with
  | zero =>
    intro q listed act w hpq hq hsz hd hf h
    have : q = all.size := by omega
    subst this
    refine ⟨?_, ?_⟩
    · apply List.eq_nil_iff_forall_not_mem.2
      intro i hi
      obtain ⟨h1, o, h2, _⟩ := (ready_iff hsz).1 hi
      exact h1 ((hd i).2 (Array.getElem?_eq_some_iff.1 h2).1)
    · rw [List.drop_eq_nil_of_le (by simp)] at h
      exact h
  | succ fuel ih =>
    intro q listed act w hpq hq hsz hd hf h
    have hcl : ∀ i o, all[i]? = some o → DoneL listed i → ∀ d ∈ depsOf o, DoneL listed d := fun i o ho hi d hdd => (hd d).2 (Nat.lt_trans (hL.edge i o ho d hdd) ((hd i).1 hi))
    refine ⟨fun hr => ?_, fun i hi => ?_⟩
    · rcases Nat.lt_or_ge q all.size with hlt | hge
      · exfalso
        have : q ∈ Region.ready .any all listed := (ready_iff hsz).2 ⟨fun h => absurd ((hd q).1 h) (Nat.lt_irrefl q), all[q], by simp [hlt], fun d hdd => (hd d).2 (hL.edge q _ (by simp [hlt]) d hdd)⟩
        rw [hr] at this; simp at this
      · rw [List.drop_eq_nil_of_le (by simpa using hge)] at h
        exact h
    · obtain ⟨h1, o, h2, h3⟩ := (ready_iff hsz).1 hi
      have hlt : i < all.size := (Array.getElem?_eq_some_iff.1 h2).1
      have hqi : q ≤ i := by
        rcases Nat.lt_or_ge i q with h' | h'
        · exact absurd ((hd i).2 h') h1
        · exact h'
      have hiq : i = q := by
        rcases Nat.lt_or_ge q i with h' | h'
        · have := (hL.tail q i (by omega) hlt h').ready hcl h2 h3
          exact absurd ((hd q).1 this) (Nat.lt_irrefl q)
        · omega
      subst hiq
      have hdrop : all.toList.drop i = o :: all.toList.drop (i + 1) := by
        rw [List.drop_eq_getElem_cons (by simpa using hlt)]
        congr 1
        have := Array.getElem?_eq_some_iff.1 h2
        simpa using this.2
      rw [hdrop] at h
      have hnext : ∀ act w, opsL P all Q (all.toList.drop (i + 1)) act w → wpAny P .any all Q fuel (listed.setIfInBounds i true) act w := fun act w h' =>
        ih (i + 1) _ act w (by omega) hlt (by simpa using hsz) (fun j => by rw [getD_set (by omega), hd j]; omega) (by omega) h'
      simp only [opsL] at h
      unfold wpOp
      rw [h2]
      simp only
      split
      · rename_i hw; rw [if_pos hw] at h; exact .inl (Oper.wp_mono hnext h)
      · rename_i hw; rw [if_neg hw] at h; exact hnext _ _ h

end
end Go.Vm


/- The abstract machine, part 21: the law of the regions that draw their order, joined. -/
namespace Go.Vm
open Go

section
variable {P : Program} {T : Tab} {F : FTab} {all : Array Oper} {p : Nat}

theorem OnA.wanted {c : Cx} {a : AAct} {act : Act} (ha : ActR c a act) {o : Oper} {on : Bool} (h : OnA all o a on) : Region.wanted o (yielded all act.tmps) = on := by
  unfold OnA at h
  unfold Region.wanted
  cases hg : o.guard with
  | none => rw [hg] at h; exact h.symm
  | some g =>
    obtain ⟨j, want⟩ := g
    rw [hg] at h
    obtain ⟨r, h1, h2⟩ := h
    simp only
    rw [yieldA_sound ha h1, h2]

theorem cnt_set {f f' : Nat → Bool} {i : Nat} (hf : f i = false) (hf' : ∀ j, f' j = (f j || decide (j = i))) : ∀ {p : Nat}, i < p → (List.range p).countP f' = (List.range p).countP f + 1 := by
  intro p
  induction p with
  | zero => intro h; omega
  | succ p ih =>
    intro h
    rw [List.range_succ, List.countP_append, List.countP_append]
    rcases Nat.lt_or_ge i p with hlt | hge
    · rw [ih hlt]
      have : f' p = f p := by rw [hf']; simp; omega
      simp [List.countP_cons, this]; omega
    · have hip : i = p := by omega
      subst hip
      have h1 : (List.range i).countP f' = (List.range i).countP f := by
        apply List.countP_congr
        intro x hx
        rw [List.mem_range] at hx
        rw [hf']; simp; omega
      have h2 : f' i = true := by rw [hf']; simp
      rw [h1]
      simp [List.countP_cons, h2, hf]

theorem ev_agree {t1 t2 : List AV} {o : Oper} (h : ∀ t ∈ o.looksAt all, t1[t]? = t2[t]?) : ∀ x ∈ o.op.operands, ev t1 x = ev t2 x := by
  intro x hx
  cases x with
  | tmp t =>
    have := h t (List.mem_append_left _ (List.mem_filterMap.2 ⟨.tmp t, by simpa using hx, rfl⟩))
    simp only [ev, List.getD_eq_getElem?_getD, this]
  | _ => rfl

theorem yieldA_agree {t1 t2 : List AV} {o : Oper} (h : ∀ t ∈ o.looksAt all, t1[t]? = t2[t]?) {j : Nat} {want : Bool} (hg : o.guard = some (j, want)) : yieldA all t1 j = yieldA all t2 j := by
  unfold yieldA
  cases hd : (all[j]?).bind (·.dst) with
  | none => rfl
  | some d =>
    simp only
    rw [h d (List.mem_append_right _ (by rw [hg]; simp [hd]))]

theorem OnA.agree {a1 a2 : AAct} {o : Oper} {on : Bool} (h : ∀ t ∈ o.looksAt all, a1.tmps[t]? = a2.tmps[t]?) (hon : OnA all o a2 on) : OnA all o a1 on := by
  unfold OnA at *
  cases hg : o.guard with
  | none => rw [hg] at hon; exact hon
  | some g =>
    obtain ⟨j, want⟩ := g
    rw [hg] at hon
    obtain ⟨r, h1, h2⟩ := hon
    exact ⟨r, (yieldA_agree h hg).trans h1, h2⟩

theorem HeapAt.quiet {h0 g : AH} {vs : List (AV × Option AB)} {done done' : Nat → Prop} {φ : Nat → Option Loc} (hh : HeapAt h0 vs done g φ) {i : Nat} {x : AV} (hx : vs[i]? = some (x, none)) (hd : ∀ j, done' j ↔ done j ∨ j = i) : HeapAt h0 vs done' g φ := by
  refine ⟨hh.len, hh.old, fun j y b e hj => ?_, fun j y b e hj => hh.no j y b e fun h => hj ((hd j).2 (.inl h))⟩
  rcases (hd j).1 hj with h | h
  · exact hh.yes j y b e h
  · subst h; rw [hx] at e; cases e

theorem slot_ne {m : Nat} {vs : List (AV × Option AB)} {i j : Nat} {x y : AV} {b b' : AB} (hi : vs[i]? = some (x, some b)) (hj : vs[j]? = some (y, some b')) (hne : i ≠ j) : slotOf m vs i ≠ slotOf m vs j := by
  unfold slotOf
  rcases Nat.lt_or_gt_of_ne hne with h | h
  · have := newsL_take_lt hi h; omega
  · have := newsL_take_lt hj h; omega

theorem HeapAt.new {h0 g : AH} {vs : List (AV × Option AB)} {done done' : Nat → Prop} {φ : Nat → Option Loc} (hh : HeapAt h0 vs done g φ) {i : Nat} {x : AV} {b : AB} {l : Loc} (hx : vs[i]? = some (x, some b)) (hd : ∀ j, done' j ↔ done j ∨ j = i) :
    HeapAt h0 vs done' (g.set (slotOf h0.length vs i) b) (upd φ (slotOf h0.length vs i) l) := by
  have hlt : slotOf h0.length vs i < g.length := by
    rw [hh.len, List.length_append]
    have := (List.getElem?_eq_some_iff.1 (newsL_slot hx)).1
    unfold slotOf; omega
  refine ⟨by simpa using hh.len, fun k hk => ?_, fun j y b' e hj => ?_, fun j y b' e hj => ?_⟩
  · rw [List.getElem?_set_ne (by unfold slotOf; omega)]; exact hh.old k hk
  · by_cases hji : j = i
    · subst hji
      rw [hx] at e; cases e
      exact List.getElem?_set_self hlt
    · rw [List.getElem?_set_ne (slot_ne hx e (Ne.symm hji))]
      exact hh.yes j y b' e (((hd j).1 hj).resolve_right hji)
  · have hji : j ≠ i := fun h => hj ((hd j).2 (.inr h))
    obtain ⟨h1, h2⟩ := hh.no j y b' e fun h => hj ((hd j).2 (.inl h))
    exact ⟨by rw [List.getElem?_set_ne (slot_ne hx e (Ne.symm hji))]; exact h1, by rw [upd_ne (slot_ne e hx hji)]; exact h2⟩

theorem HeapAt.start {c : Cx} {h0 : AH} (hs : Sim c h0) (vs : List (AV × Option AB)) {done : Nat → Prop} (hd : ∀ i, ¬ done i) : HeapAt h0 vs done (h0 ++ List.replicate (newsL vs).length .dead) c.φ := by
  refine ⟨by simp, fun k hk => List.getElem?_append_left hk, fun i x b e h => absurd h (hd i), fun i x b e _ => ⟨?_, hs.dom _ (by unfold slotOf; omega)⟩⟩
  have := (List.getElem?_eq_some_iff.1 (newsL_slot e)).1
  rw [List.getElem?_append_right (by unfold slotOf; omega)]
  unfold slotOf
  rw [List.getElem?_replicate, if_pos (by omega)]

/-- The drawn part of the region. -/
theorem draw_run (hT : T.OK P) (hF : F.OK P) (hL : Lex all p) {a0 : AAct} {h0 hb : AH} {vs : List (AV × Option AB)} {k : List It} {K : AExit → AAct → AH → Prop} (hvl : vs.length = p)
    (hst : ∀ (i : Nat) (o : Oper) (x : AV) (b : Option AB), (all.toList.take p)[i]? = some o → vs[i]? = some (x, b) → QStep P T F all o (puts ((all.toList.take p).take i) (vs.take i) a0) (h0 ++ newsL (vs.take i)) x b)
    (hK : AStk P hb (.ops all (all.toList.drop p) :: k) (puts (all.toList.take p) vs a0) (h0 ++ newsL vs) K) {c00 : Cx} (hd0 : ∀ i, hb.length ≤ i → c00.φ i = none) :
    ∀ (fuel : Nat) (listed : Array Bool) (c : Cx) (act : Act) (tl : List AV) (g : AH), listed.size = all.size → (∀ i o, all[i]? = some o → DoneL listed i → ∀ d ∈ depsOf o, DoneL listed d) → (∀ i, DoneL listed i → i < p) →
      Cur (all.toList.take p) vs a0.tmps (DoneL listed) tl → ActR c ⟨tl, a0.defers⟩ act → HeapAt h0 vs (DoneL listed) g c.φ → Sim c g → Ext c00 hb c g → all.size ≤ fuel + (List.range p).countP (fun i => listed.getD i false) →
      wpAny P .any all (runsTo P (QL c00 hb K) k) fuel listed act c.w := by
  have hple := hL.le
  have hll : (all.toList.take p).length = p := by simp; omega
  have hget : ∀ (i : Nat) (o : Oper), (all.toList.take p)[i]? = some o → i < p ∧ all[i]? = some o := fun i o e => by
    have h1 := (List.getElem?_eq_some_iff.1 e).1
    rw [hll] at h1
    rw [List.getElem?_take_of_lt h1] at e
    exact ⟨h1, by simpa using e⟩
  have honce : ∀ (i j : Nat) (x y : Oper) (d : Tmp), i ≠ j → (all.toList.take p)[i]? = some x → (all.toList.take p)[j]? = some y → y.dst = some d → x.dst ≠ some d := fun i j x y d hne hx hy hd =>
    hL.once i j x y d (hget i x hx).1 (hget j y hy).1 hne (hget i x hx).2 (hget j y hy).2 hd
  have hvl' : vs.length = (all.toList.take p).length := by rw [hll]; exact hvl
  intro fuel
  induction fuel with
  | zero =>
    intro listed c act tl g hsz hcl hlt hcur ha hh hs hext hf
    have hcnt : (List.range p).countP (fun i => listed.getD i false) ≤ p := by
      have := List.countP_le_length (p := fun i => listed.getD i false) (l := List.range p)
      simpa using this
    have hall : ∀ i, i < p → DoneL listed i := by
      have : (List.range p).countP (fun i => listed.getD i false) = (List.range p).length := by simp only [List.length_range]; omega
      rw [List.countP_eq_length] at this
      exact fun i hi => this i (List.mem_range.2 hi)
    have hg := hh.full (fun i hi => hall i (by omega))
    have htl : tl = (puts (all.toList.take p) vs a0).tmps := by
      have ht := cur_text hvl' honce (a := a0) p (by omega)
      rw [List.take_take, Nat.min_self, List.take_of_length_le (by omega : vs.length ≤ p)] at ht
      apply List.ext_getElem?
      intro t
      exact hcur.agree hvl' ht honce fun j o hj _ => ⟨fun h => hlt j h, fun h => hall j h⟩
    subst hg
    subst htl
    have := hK c00 c act hd0 hext hs ⟨ha.tmps, by rw [puts_defers]; exact ha.defers⟩
    exact wpAny_tail hL 0 p listed act c.w (Nat.le_refl _) hple hsz (fun i => ⟨hlt i, hall i⟩) (by omega) (by simpa only [runsTo] using this)
  | succ fuel ih =>
    intro listed c act tl g hsz hcl hlt hcur ha hh hs hext hf
    by_cases hall : ∀ i, i < p → DoneL listed i
    · have hg := hh.full (fun i hi => hall i (by omega))
      have htl : tl = (puts (all.toList.take p) vs a0).tmps := by
        have ht := cur_text hvl' honce (a := a0) p (by omega)
        rw [List.take_take, Nat.min_self, List.take_of_length_le (by omega : vs.length ≤ p)] at ht
        apply List.ext_getElem?
        intro t
        exact hcur.agree hvl' ht honce fun j o hj _ => ⟨fun h => hlt j h, fun h => hall j h⟩
      subst hg
      subst htl
      have := hK c00 c act hd0 hext hs ⟨ha.tmps, by rw [puts_defers]; exact ha.defers⟩
      have hcnt : (List.range p).countP (fun i => listed.getD i false) ≤ p := by
        have := List.countP_le_length (p := fun i => listed.getD i false) (l := List.range p)
        simpa using this
      exact wpAny_tail hL (fuel + 1) p listed act c.w (Nat.le_refl _) hple hsz (fun i => ⟨hlt i, hall i⟩) (by omega) (by simpa only [runsTo] using this)
    · refine ⟨fun hr => ?_, fun i hi => ?_⟩
      · exfalso
        apply hall
        intro i
        induction i using Nat.strongRecOn with
        | ind i ihi =>
          intro hip
          apply Classical.byContradiction
          intro hnd
          have hin : i < all.size := by omega
          have : i ∈ Region.ready .any all listed := (ready_iff hsz).2 ⟨hnd, all[i], by simp [hin], fun d hd => by
            have := hL.edge i _ (by simp [hin]) d hd
            exact ihi d this (by omega)⟩
          rw [hr] at this; simp at this
      · obtain ⟨hnd, o, ho, hdeps⟩ := (ready_iff hsz).1 hi
        have hin : i < all.size := (Array.getElem?_eq_some_iff.1 ho).1
        have hip : i < p := by
          rcases Nat.lt_or_ge i p with h' | h'
          · exact h'
          · exact absurd (fun j hj => (hL.tail j i h' hin (by omega)).ready hcl ho hdeps) hall
        have hol : (all.toList.take p)[i]? = some o := by rw [List.getElem?_take_of_lt hip]; simpa using ho
        have hvi : i < vs.length := by omega
        obtain ⟨x, b, hv⟩ : ∃ x b, vs[i]? = some (x, b) := ⟨vs[i].1, vs[i].2, List.getElem?_eq_getElem hvi⟩
        have hq := hst i o x b hol hv
        have hct := cur_text hvl' honce (a := a0) i (by omega)
        have hag : ∀ t ∈ o.looksAt all, tl[t]? = (puts ((all.toList.take p).take i) (vs.take i) a0).tmps[t]? := fun t ht =>
          hcur.agree hvl' hct honce fun j oj hj hd => by
            obtain ⟨hjp, hja⟩ := hget j oj hj
            by_cases hji : i = j
            · subst hji
              exact ⟨fun h => absurd h hnd, fun h => absurd h (Nat.lt_irrefl i)⟩
            · obtain ⟨l1, l2⟩ := hL.looks i j o oj t hip hjp hji ho hja hd ht
              refine ⟨fun h => ?_, fun h => (l1 h).ready hcl ho hdeps⟩
              rcases Nat.lt_or_gt_of_ne hji with h' | h'
              · exact absurd ((l2 h').listed hcl h) hnd
              · exact h'
        have hd' : ∀ j, DoneL (listed.setIfInBounds i true) j ↔ DoneL listed j ∨ j = i := fun j => getD_set (by omega)
        have hnext : ∀ (c' : Cx) (g' : AH) (v : Value), Le c c' → VR c' x v → HeapAt h0 vs (DoneL (listed.setIfInBounds i true)) g' c'.φ → Sim c' g' → Ext c00 hb c' g' →
            wpAny P .any all (runsTo P (QL c00 hb K) k) fuel (listed.setIfInBounds i true) (act.put o.dst v) c'.w := fun c' g' v hle hxv hh' hs' he' => by
          have hput := (ha.mono hle).put o.dst hxv
          have hdf : (AAct.put ⟨tl, a0.defers⟩ o.dst x).defers = a0.defers := by cases o.dst <;> rfl
          refine ih _ c' _ (AAct.put ⟨tl, a0.defers⟩ o.dst x).tmps g' (by simpa using hsz) (fun j oj hj hdj d hdd => ?_) (fun j hj => ?_) (hcur.step hvl' honce hol hv hd' rfl) ⟨hput.tmps, by rw [← hdf]; exact hput.defers⟩ hh' hs' he' ?_
          · rcases (hd' j).1 hdj with h' | h'
            · exact (hd' d).2 (.inl (hcl j oj hj h' d hdd))
            · subst h'; rw [ho] at hj; cases hj; exact (hd' d).2 (.inl (hdeps d hdd))
          · rcases (hd' j).1 hj with h' | h'
            · exact hlt j h'
            · omega
          · rw [cnt_set (f := fun i => listed.getD i false) (f' := fun j => (listed.setIfInBounds i true).getD j false) (by unfold DoneL at hnd; simpa using hnd) (fun j => ?_) hip]
            · omega
            · have := hd' j
              unfold DoneL at this
              rw [Bool.eq_iff_iff]
              simpa using this
        unfold wpOp
        rw [ho]
        simp only
        generalize ha' : puts ((all.toList.take p).take i) (vs.take i) a0 = at' at hq hag
        have hρ : ∀ y, VR c (ev tl y) (act.eval y) := fun y => ev_sound ha.tmps y
        cases hq with
        | off hon =>
          have hon' : OnA all o ⟨tl, a0.defers⟩ false := hon.agree hag
          rw [if_neg (by rw [hon'.wanted ha]; decide)]
          exact hnext c g undef (Le.refl c) .undef (hh.quiet hv hd') hs hext
        | quiet hon hq hk =>
          have hon' : OnA all o ⟨tl, a0.defers⟩ true := hon.agree hag
          rw [if_pos (hon'.wanted ha)]
          rw [aop_congr (fun y hy => (ev_agree hag y hy).symm)] at hk
          obtain ⟨v, h1, h2⟩ := aop_quiet_sound hT hq (hh.rd hs i) hρ hk
          refine .inl ?_
          unfold Oper.wp
          rw [h1]
          exact hnext c g v (Le.refl c) h2 (hh.quiet hv hd') hs hext
        | @row sz es hon hn hcl hk =>
          have hon' : OnA all o ⟨tl, a0.defers⟩ true := hon.agree hag
          rw [if_pos (hon'.wanted ha)]
          rw [aop_congr (fun y hy => (ev_agree hag y hy).symm)] at hk
          obtain ⟨b', nk', _, ⟨h1, h2⟩, _, h3⟩ := aop_new hT hn hk
          obtain ⟨ob, v, l, g1, g2, g3⟩ := h3 c act.eval hρ
          have hnk : nk' = .sl es.length := NK.inj (ANext.val.inj h1)
          have hbb : b' = .arr sz es false := by simpa using h2
          subst hnk
          subst hbb
          refine .inl ?_
          unfold Oper.wp
          rw [g2]
          obtain ⟨c', e1, e2, e3, e4, e5⟩ := hs.newRow g1 g3 hcl
          have := hnext c' g v e4.le e5 (by rw [e2]; exact hh.quiet hv hd') e3 (hext.trans e4)
          rw [e1] at this
          exact this
        | call hon hc hac hxc hk =>
          have hon' : OnA all o ⟨tl, a0.defers⟩ true := hon.agree hag
          rw [if_pos (hon'.wanted ha)]
          rw [callOf_congr (fun y hy => (ev_agree hag y hy).symm)] at hc
          obtain ⟨us, h1, h2⟩ := callOf_sound hF hρ hc
          refine .inl ?_
          unfold Oper.wp
          rw [h1]
          refine (hk.framed hac hxc hs h2).mono fun e w ⟨v, e1, c', e2, e3, e4, e5, e6⟩ => ?_
          subst e1
          subst e2
          exact hnext c' g v e4.le e6 (by rw [e3]; exact hh.quiet hv hd') e5 (hext.trans e4)
        | @new b nk hon hn hbl hk =>
          have hon' : OnA all o ⟨tl, a0.defers⟩ true := hon.agree hag
          rw [if_pos (hon'.wanted ha)]
          rw [aop_congr (fun y hy => (ev_agree hag y hy).symm)] at hk
          obtain ⟨b', nk', _, ⟨h1, h2⟩, _, h3⟩ := aop_new hT hn hk
          obtain ⟨ob, v, l, g1, g2, g3⟩ := h3 c act.eval hρ
          have hnk : nk' = nk := NK.inj (ANext.val.inj h1)
          have hbb : b' = b := by simpa using h2
          subst hnk
          subst hbb
          have hsl : (h0 ++ newsL (vs.take i)).length = slotOf h0.length vs i := by simp [slotOf]
          refine .inl ?_
          unfold Oper.wp
          rw [g2]
          obtain ⟨n1, n2⟩ := hh.no i _ b' hv hnd
          obtain ⟨s1, s2⟩ := hs.newAt (o := ob) (b := b') (l := l) (w' := c.w.alloc ob) n1 n2 g1 rfl rfl rfl rfl fun hle hL0 => (g3 _ (slotOf h0.length vs i) hle rfl hL0 upd_same).1
          have hL0 : c.L l.b = 0 := by
            rcases Nat.eq_zero_or_pos (c.L l.b) with h' | h'
            · exact h'
            · have := hs.lock _ h'; omega
          refine hnext ⟨upd c.φ (slotOf h0.length vs i) l, c.L, c.w.alloc ob⟩ _ v s2.le ?_ (hh.new hv hd') s1 (hext.trans s2)
          rw [hsl]
          exact (g3 _ (slotOf h0.length vs i) s2.le rfl hL0 upd_same).2

/-- A region that draws its order. -/
theorem stk_draw (hm : P.follows .mixedOrders = true) (hT : T.OK P) (hF : F.OK P) {i : Nat} {all : Array Oper} (p : Nat) (hL : lexOK all p = true) {k : List It} {a : AAct} {h0 h : AH} {K : AExit → AAct → AH → Prop}
    (hq : qrun P T F all (fun a h => AStk P h0 (.ops all (all.toList.drop p) :: k) a h K) (all.toList.take p) a h) : AStk P h0 (.code (.region i all true) :: k) a h K := by
  have hLex := lexOK_spec hL
  intro c0 c act hd0 he hs ha
  obtain ⟨vs, hvs⟩ := qrun_trace hT hq
  obtain ⟨h1, h2, h3⟩ := hvs.at
  have hll : (all.toList.take p).length = p := by have := hLex.le; simp; omega
  have hnone : ∀ i, ¬ DoneL (Array.replicate all.size false) i := fun i => by simp [DoneL, Array.getD]
  refine wp_region_any hm ?_
  obtain ⟨s1, s2⟩ := hs.pad (newsL vs).length
  have hw : Ext c h ⟨c.φ, c.L, { c.w with drawn := c.w.drawn + 1 }⟩ h := ⟨⟨fun _ _ e => e, fun _ => Nat.le_refl _, fun _ _ _ => rfl⟩, Nat.le_refl _, fun _ _ _ => ⟨rfl, rfl⟩, fun _ h => .inr h, rfl, rfl, rfl⟩
  have hs' : Sim ⟨c.φ, c.L, { c.w with drawn := c.w.drawn + 1 }⟩ h := ⟨hs.dom, fun i b e1 e2 => by
    obtain ⟨l, f1, f2, f3⟩ := hs.blk i b e1 e2
    exact ⟨l, f1, f2, f3.mono hw.le rfl rfl⟩, hs.inj, hs.lock⟩
  obtain ⟨s1, s2⟩ := hs'.pad (newsL vs).length
  refine draw_run hT hF hLex (by omega) h3 h2 hd0 all.size _ ⟨c.φ, c.L, { c.w with drawn := c.w.drawn + 1 }⟩ act a.tmps _ (by simp) (fun i o _ h => absurd h (hnone i)) (fun i h => absurd h (hnone i)) ⟨rfl, fun i o x b t _ _ h => absurd h (hnone i), fun t _ => rfl⟩ (ha.mono hw.le) (HeapAt.start hs' vs hnone) s1 ((he.trans hw).trans s2) (by omega)

end
end Go.Vm


/- The abstract machine, part 22: other names for the blocks; rows that are written no more. -/
namespace Go.Vm
open Go

/-- What becomes of a block's name. -/
inductive Sb where
  | to (j : Nat)
  | gone
  | ro (sz : Nat) (es : List (List AV))

mutual
def AV.sub (f : Nat → Sb) : AV → AV
  | .ptr id off => (match f id with
    | .to j => .ptr j off
    | _ => .dead)
  | .ep id i off => (match f id with
    | .to j => .ep j i off
    | .ro sz es => if i < es.length then .rop sz es i off else .dead
    | .gone => .dead)
  | .sl id off len => (match f id with
    | .to j => .sl j off len
    | .ro sz es => if off + len ≤ es.length then .ro sz ((es.drop off).take len) else .dead
    | .gone => .dead)
  | .vsl id off len sz => (match f id with
    | .to j => .vsl j off len sz
    | _ => .dead)
  | .map id => (match f id with
    | .to j => .map j
    | _ => .dead)
  | .rop sz es i off => .rop sz (subLL f es) i off
  | .ro sz es => .ro sz (subLL f es)
  | .fn g xs ys => .fn g (subL f xs) (subL f ys)
  | .iface t x => .iface t (AV.sub f x)
  | .agg xs => .agg (subL f xs)
  | .tup xs => .tup (subL f xs)
  | .int k n => .int k n
  | .bool b => .bool b
  | .str s => .str s
  | .nilp => .nilp
  | .nils => .nils
  | .nilm => .nilm
  | .nilf => .nilf
  | .nili => .nili
  | .undef => .undef
  | .dead => .dead
  | .any => .any
def subL (f : Nat → Sb) : List AV → List AV
  | [] => []
  | x :: l => AV.sub f x :: subL f l
def subLL (f : Nat → Sb) : List (List AV) → List (List AV)
  | [] => []
  | x :: l => subL f x :: subLL f l
end

theorem subL_map (f : Nat → Sb) : ∀ l, subL f l = l.map (AV.sub f)
  | [] => by simp [subL]
  | x :: l => by simp [subL, subL_map f l]

theorem subLL_map (f : Nat → Sb) : ∀ l, subLL f l = l.map (fun e => e.map (AV.sub f))
  | [] => by simp [subLL]
  | x :: l => by simp [subLL, subL_map, subLL_map f l]

/-- A row that's written no more, as it lies. -/
def RoAt (c : Cx) (l : Loc) (sz : Nat) (es : List (List AV)) : Prop :=
  l.sz = sz ∧ (∀ e ∈ es, e.length = sz) ∧ ∃ vals : Nat → Nat → Value, ∀ (i : Nat) (e : List AV) (j : Nat) (x : AV), es[i]? = some e → e[j]? = some x →
    l.base + i * sz + j < c.L l.b ∧ c.w.cell? ⟨l.b, l.base + i * sz + j, none⟩ = some (vals i j) ∧ (vals i j).oneCell' = true ∧ VR c x (vals i j)

theorem get_map2 {es : List (List AV)} {g : AV → AV} {i j : Nat} {e : List AV} {x : AV} (h1 : (es.map fun e => e.map g)[i]? = some e) (h2 : e[j]? = some x) : ∃ e' x', es[i]? = some e' ∧ e'[j]? = some x' ∧ x = g x' := by
  rw [List.getElem?_map, Option.map_eq_some_iff] at h1
  obtain ⟨e', a, rfl⟩ := h1
  rw [List.getElem?_map, Option.map_eq_some_iff] at h2
  obtain ⟨x', b, rfl⟩ := h2
  exact ⟨e', x', a, b, rfl⟩

theorem get_map1 {es : List AV} {g : AV → AV} {i : Nat} {x : AV} (h1 : (es.map g)[i]? = some x) : ∃ x', es[i]? = some x' ∧ x = g x' := by
  rw [List.getElem?_map, Option.map_eq_some_iff] at h1
  obtain ⟨x', a, rfl⟩ := h1
  exact ⟨x', a, rfl⟩

structure Subs (c c' : Cx) (f : Nat → Sb) : Prop where
  to : ∀ i j l, f i = .to j → c.φ i = some l → c'.φ j = some l
  ro : ∀ i sz es l, f i = .ro sz es → c.φ i = some l → RoAt c' l sz es
  L : ∀ b, c.L b ≤ c'.L b
  cell : ∀ b o, o < c.L b → c'.w.cell? ⟨b, o, none⟩ = c.w.cell? ⟨b, o, none⟩

theorem VR.sub {c c' : Cx} {f : Nat → Sb} (hf : Subs c c' f) {x : AV} {v : Value} (h : VR c x v) : VR c' (x.sub f) v := by
  induction h with
  | int => simp only [AV.sub]; exact .int
  | bool => simp only [AV.sub]; exact .bool
  | str => simp only [AV.sub]; exact .str
  | nilp => simp only [AV.sub]; exact .nilp
  | nils => simp only [AV.sub]; exact .nils
  | nilm => simp only [AV.sub]; exact .nilm
  | nilf => simp only [AV.sub]; exact .nilf
  | nili => simp only [AV.sub]; exact .nili
  | undef => simp only [AV.sub]; exact .undef
  | dead h => simp only [AV.sub]; exact .dead h
  | any => simp only [AV.sub]; exact .any
  | @vsl id off len sz l cap hl hcap =>
    simp only [AV.sub]
    cases he : f id with
    | to j => exact .vsl (hf.to _ _ _ he hl) hcap
    | gone => exact .dead rfl
    | ro sz es => exact .dead rfl
  | @ptr id off l hl =>
    simp only [AV.sub]
    cases he : f id with
    | to j => exact .ptr (hf.to _ _ _ he hl)
    | gone => exact .dead rfl
    | ro sz es => exact .dead rfl
  | @ep id i off l hl =>
    simp only [AV.sub]
    cases he : f id with
    | to j => exact .ep (hf.to _ _ _ he hl)
    | gone => exact .dead rfl
    | ro sz es =>
      simp only
      split
      · rename_i hi
        obtain ⟨h1, h2, vals, h3⟩ := hf.ro _ _ _ _ he hl
        subst h1
        exact .rop vals hi h2 (fun i e j x a b => ⟨(h3 i e j x a b).1, (h3 i e j x a b).2.1, (h3 i e j x a b).2.2.1⟩) fun i e j x a b => (h3 i e j x a b).2.2.2
      · exact .dead rfl
  | rop vals hi hsz hc _ ih =>
    simp only [AV.sub, subLL_map]
    refine .rop vals (by simpa using hi) (fun e he => ?_) (fun i e j x h1 h2 => ?_) (fun i e j x h1 h2 => ?_)
    · obtain ⟨e', a, rfl⟩ := List.mem_map.1 he
      simpa using hsz e' a
    · obtain ⟨e', x', a, b, rfl⟩ := get_map2 h1 h2
      exact ⟨Nat.lt_of_lt_of_le (hc i e' j x' a b).1 (hf.L _), (hf.cell _ _ (hc i e' j x' a b).1).trans (hc i e' j x' a b).2.1, (hc i e' j x' a b).2.2⟩
    · obtain ⟨e', x', a, b, rfl⟩ := get_map2 h1 h2
      exact ih i e' j x' a b
  | @sl id off len l cap hl hcap hsz hn =>
    simp only [AV.sub]
    cases he : f id with
    | to j => exact .sl (hf.to _ _ _ he hl) hcap hsz hn
    | gone => exact .dead rfl
    | ro sz es =>
      simp only
      split
      · rename_i hle
        obtain ⟨h1, h2, vals, h3⟩ := hf.ro _ _ _ _ he hl
        subst h1
        have hget : ∀ (i : Nat) (e : List AV), ((es.drop off).take len)[i]? = some e → es[off + i]? = some e := fun i e g => by
          have hi : i < len := by
            have := (List.getElem?_eq_some_iff.1 g).1
            simp at this; omega
          rw [List.getElem?_take_of_lt hi, List.getElem?_drop] at g
          exact g
        have hadd : ∀ i j, l.base + off * l.sz + i * l.sz + j = l.base + (off + i) * l.sz + j := fun i j => by rw [Nat.add_mul]; omega
        exact .ro (fun i j => vals (off + i) j) (by simp; omega) hcap (fun e he => h2 e (List.mem_of_mem_drop (List.mem_of_mem_take he)))
          (fun i e j x a b => by rw [hadd]; exact ⟨(h3 _ e j x (hget i e a) b).1, (h3 _ e j x (hget i e a) b).2.1, (h3 _ e j x (hget i e a) b).2.2.1⟩) fun i e j x a b => (h3 _ e j x (hget i e a) b).2.2.2
      · exact .dead rfl
  | @sl0 id off l o hl =>
    simp only [AV.sub]
    cases he : f id with
    | to j => exact .sl0 (hf.to _ _ _ he hl)
    | gone => exact .dead rfl
    | ro sz es =>
      simp only
      split
      · rw [List.take_zero]
        exact .ro (fun _ _ => default) rfl (Nat.le_refl _) (by simp) (fun i e j x hh => by simp at hh) (fun i e j x hh => by simp at hh)
      · exact .dead rfl
  | ro vals hlen hcap hsz hc _ ih =>
    simp only [AV.sub, subLL_map]
    refine .ro vals (by simpa using hlen) hcap (fun e he => ?_) (fun i e j x h1 h2 => ?_) (fun i e j x h1 h2 => ?_)
    · obtain ⟨e', a, rfl⟩ := List.mem_map.1 he
      simpa using hsz e' a
    · obtain ⟨e', x', a, b, rfl⟩ := get_map2 h1 h2
      exact ⟨Nat.lt_of_lt_of_le (hc i e' j x' a b).1 (hf.L _), (hf.cell _ _ (hc i e' j x' a b).1).trans (hc i e' j x' a b).2.1, (hc i e' j x' a b).2.2⟩
    · obtain ⟨e', x', a, b, rfl⟩ := get_map2 h1 h2
      exact ih i e' j x' a b
  | roNil => simp only [AV.sub, subLL]; exact .roNil
  | @map id l hl =>
    simp only [AV.sub]
    cases he : f id with
    | to j => exact .map (hf.to _ _ _ he hl)
    | gone => exact .dead rfl
    | ro sz es => exact .dead rfl
  | fn h1 h2 _ _ ih3 ih4 =>
    simp only [AV.sub, subL_map]
    exact .fn (by simpa using h1) (by simpa using h2) (fun i x v a b => by obtain ⟨x', a', rfl⟩ := get_map1 a; exact ih3 i x' v a' b) (fun i x v a b => by obtain ⟨x', a', rfl⟩ := get_map1 a; exact ih4 i x' v a' b)
  | iface _ ih => simp only [AV.sub]; exact .iface ih
  | agg h0 h1 _ ih =>
    simp only [AV.sub, subL_map]
    exact .agg h0 (by simpa using h1) fun i x v a b => by obtain ⟨x', a', rfl⟩ := get_map1 a; exact ih i x' v a' b
  | tup h1 _ ih =>
    simp only [AV.sub, subL_map]
    exact .tup (by simpa using h1) fun i x v a b => by obtain ⟨x', a', rfl⟩ := get_map1 a; exact ih i x' v a' b

theorem VRs.sub {c c' : Cx} {f : Nat → Sb} (hf : Subs c c' f) {xs : List AV} {vs : List Value} (h : VRs c xs vs) : VRs c' (xs.map (AV.sub f)) vs :=
  ⟨by simpa using h.1, fun i x v a b => by obtain ⟨x', a', rfl⟩ := get_map1 a; exact (h.2 i x' v a' b).sub hf⟩

def AB.sub (f : Nat → Sb) : AB → AB
  | .dead => .dead
  | .var cs => .var (cs.map (AV.sub f))
  | .arr sz es lk => .arr sz (es.map fun e => e.map (AV.sub f)) lk
  | .map es clk => .map (es.map fun p => (p.1.sub f, p.2.1.sub f, p.2.2)) clk
  | .miter m since seen stepped => (match m with
    | none => .miter none since seen stepped
    | some id => (match f id with
      | .to j => .miter (some j) since seen stepped
      | _ => .dead))
  | .siter s pos => .siter s pos

theorem AB.sub_live {f : Nat → Sb} {b : AB} (h : (b.sub f).live = true) : b.live = true := by
  cases b <;> simp_all [AB.sub, AB.live]

/-- A block under other names; its cells, and how far they're locked, have not turned. -/
theorem BR.sub {c c' : Cx} {f : Nat → Sb} (hf : Subs c c' f) {l : Loc} {b : AB} (hh : c'.w.heap[l.b]? = c.w.heap[l.b]?) (hL : c'.L l.b = c.L l.b) (h : BR c l b) : BR c' l (b.sub f) := by
  cases h with
  | var h1 h2 h3 h4 h5 => exact .var (hh.trans h1) h2 (hL.trans h3) (h4.sub hf) h5
  | arr h1 h2 h3 h4 h5 h6 h7 h8 h9 h10 =>
    refine .arr (hh.trans h1) h2 h3 h4 (by simpa using h5) (fun e he => ?_) (fun i e j x v a b d => ?_) (by rw [hL]; simpa using h8) (fun e => hL.trans (h9 e)) h10
    · obtain ⟨e', a, rfl⟩ := List.mem_map.1 he
      simpa using h6 e' a
    · obtain ⟨e', x', a', b', rfl⟩ := get_map2 a b
      exact (h7 i e' j x' v a' b' d).sub hf
  | map h1 h2 h3 h4 =>
    refine .map (hh.trans h1) (hL.trans h2) (by simpa using h3) (fun i k v n e a b => ?_)
    rw [List.getElem?_map, Option.map_eq_some_iff] at a
    obtain ⟨⟨k', v', n'⟩, a1, a2⟩ := a
    cases a2
    obtain ⟨g1, g2, g3⟩ := h4 i k' v' n' e a1 b
    exact ⟨g1.sub hf, g2.sub hf, g3⟩
  | miter h1 h2 h3 =>
    rcases h3 with ⟨rfl, h3⟩ | ⟨id, lm, e1, e2, e3⟩
    · exact .miter (hh.trans h1) (hL.trans h2) (.inl ⟨rfl, h3⟩)
    · subst e1
      simp only [AB.sub]
      cases he : f id with
      | to j => exact .miter (hh.trans h1) (hL.trans h2) (.inr ⟨j, lm, rfl, hf.to _ _ _ he e2, e3⟩)
      | gone => exact .dead
      | ro sz es => exact .dead
  | siter h1 h2 => exact .siter (hh.trans h1) (hL.trans h2)
  | dead => exact .dead

/-- All under other names; nothing moves. -/
theorem Sim.sub {c : Cx} {h : AH} {f : Nat → Sb} (hs : Sim c h) (hf : Subs c c f) : Sim c (h.map (AB.sub f)) ∧ Ext c h c (h.map (AB.sub f)) := by
  have hlv : ∀ i, liveAt (h.map (AB.sub f)) i → liveAt h i := fun i ⟨b, e1, e2⟩ => by
    rw [List.getElem?_map, Option.map_eq_some_iff] at e1
    obtain ⟨b', a, rfl⟩ := e1
    exact ⟨b', a, AB.sub_live e2⟩
  refine ⟨⟨fun i hi => hs.dom i (by simpa using hi), fun i b e1 e2 => ?_, fun i j li lj hi hj => hs.inj i j li lj (hlv i hi) (hlv j hj), hs.lock⟩, ⟨Le.refl c, Nat.le_refl _, fun _ _ _ => ⟨rfl, rfl⟩, fun b ⟨i, l, hi, e, hb⟩ => .inr ⟨i, l, hlv i hi, e, hb⟩, rfl, rfl, rfl⟩⟩
  rw [List.getElem?_map, Option.map_eq_some_iff] at e1
  obtain ⟨b', a, rfl⟩ := e1
  obtain ⟨l, g1, g2, g3⟩ := hs.blk i b' a (AB.sub_live e2)
  exact ⟨l, g1, g2, g3.sub hf rfl rfl⟩

/-- A row's name, where it is written no more. -/
def frz (id sz : Nat) (es : List (List AV)) : Nat → Sb := fun i => if i = id then .ro sz es else .to i

def AH.freeze (h : AH) (id sz : Nat) (es : List (List AV)) : AH := (h.set id .dead).map (AB.sub (frz id sz es))

theorem Sim.freeze {c : Cx} {h : AH} (hs : Sim c h) {id sz : Nat} {es : List (List AV)} {lk : Bool} (hid : h[id]? = some (.arr sz es lk)) :
    ∃ c', c'.w = c.w ∧ Ext c h c' (AH.freeze h id sz es) ∧ Sim c' (AH.freeze h id sz es) ∧ Subs c' c' (frz id sz es) ∧ Le c c' := by
  obtain ⟨l, e1, e2, e3⟩ := hs.blk id _ hid rfl
  obtain ⟨s1, s2⟩ := hs.lockRow hid e1
  have hlt : id < h.length := (List.getElem?_eq_some_iff.1 hid).1
  refine ⟨⟨c.φ, fun x => if x = l.b then l.base + es.length * sz else c.L x, c.w⟩, rfl, ?_⟩
  generalize hc' : (⟨c.φ, fun x => if x = l.b then l.base + es.length * sz else c.L x, c.w⟩ : Cx) = c' at s1 s2
  have hφ : c'.φ = c.φ := by rw [← hc']
  have hL : c'.L l.b = l.base + es.length * sz := by rw [← hc']; simp
  obtain ⟨l', f1, f2, f3⟩ := s1.blk id (.arr sz es true) (List.getElem?_set_self hlt) rfl
  rw [hφ, e1] at f1; cases f1
  have hsub : Subs c' c' (frz id sz es) := by
    refine ⟨fun i j l' a b => ?_, fun i sz' es' l' a b => ?_, fun _ => Nat.le_refl _, fun _ _ _ => rfl⟩
    · unfold frz at a
      split at a
      · cases a
      · cases a; exact b
    · unfold frz at a
      split at a
      · rename_i hii
        subst hii
        cases a
        rw [hφ, e1] at b; cases b
        cases f3 with
        | arr a1 a2 a3 a4 a5 a6 a7 a8 a9 a10 =>
          rename_i vs T
          refine ⟨a3, a6, fun i j => (vs[l.base + i * sz + j]?).getD default, fun i e j x g1 g2 => ?_⟩
          have hi := (List.getElem?_eq_some_iff.1 g1).1
          have hj := (List.getElem?_eq_some_iff.1 g2).1
          rw [a6 e (List.mem_of_getElem? g1)] at hj
          have hb : i * sz + j < es.length * sz := by
            have : (i + 1) * sz ≤ es.length * sz := Nat.mul_le_mul_right _ (by omega)
            rw [Nat.add_mul, Nat.one_mul] at this
            omega
          have hlt : l.base + i * sz + j < vs.size := by omega
          refine ⟨by rw [hL]; omega, ?_, ?_, ?_⟩
          · simp only [World.cell?, a1]
            rw [Array.getElem?_eq_getElem hlt]
            simp
          · dsimp only
            rw [Array.getElem?_eq_getElem hlt]
            exact a10 _ (by simp)
          · dsimp only
            rw [Array.getElem?_eq_getElem hlt]
            exact a7 i e j x _ g1 g2 (by simp [hlt])
      · cases a
  obtain ⟨t1, t2⟩ := s1.kill id
  rw [List.set_set] at t1 t2
  obtain ⟨u1, u2⟩ := t1.sub hsub
  exact ⟨(s2.trans t2).trans u2, u1, hsub, s2.le⟩

end Go.Vm


/- The abstract machine, part 23: the rules for other names: rows frozen, what is no more used thrown away, and a call whose contract speaks of a few blocks alone. -/
namespace Go.Vm
open Go

def pos : List Nat → Nat → Option Nat
  | [], _ => none
  | j :: l, i => if i = j then some 0 else (match pos l i with
    | some k => some (k + 1)
    | none => none)

theorem pos_some {l : List Nat} {i : Nat} : ∀ {k : Nat}, pos l i = some k → l[k]? = some i := by
  induction l with
  | nil => intro k h; cases h
  | cons j l ih =>
    intro k h
    simp only [pos] at h
    split at h
    · rename_i e; cases h; subst e; rfl
    · split at h
      · rename_i k' e; cases h; simpa using ih e
      · cases h

theorem pos_none {l : List Nat} {i : Nat} : pos l i = none → i ∉ l := by
  induction l with
  | nil => simp
  | cons j l ih =>
    intro h
    simp only [pos] at h
    split at h
    · cases h
    · rename_i hne
      split at h
      · cases h
      · rename_i e; simp [hne, ih e]

theorem pos_get {l : List Nat} {i : Nat} (hn : l.Nodup) : ∀ {k : Nat}, l[k]? = some i → pos l i = some k := by
  intro k h
  cases hp : pos l i with
  | none => exact absurd (List.mem_of_getElem? h) (pos_none hp)
  | some k' =>
    have h' := pos_some hp
    obtain ⟨h1, h2⟩ := List.getElem?_eq_some_iff.1 h
    obtain ⟨h3, h4⟩ := List.getElem?_eq_some_iff.1 h'
    have : k' = k := by
      apply Classical.byContradiction
      intro hne
      have := List.pairwise_iff_getElem.1 hn
      rcases Nat.lt_or_gt_of_ne hne with hlt | hlt
      · exact this k' k h3 h1 hlt (h4.trans h2.symm)
      · exact this k k' h1 h3 hlt (h2.trans h4.symm)
    rw [this]

def ADef.sub (f : Nat → Sb) (d : ADef) : ADef := ⟨d.f, d.captured.map (AV.sub f), d.args.map (AV.sub f)⟩
def AAct.sub (f : Nat → Sb) (a : AAct) : AAct := ⟨a.tmps.map (AV.sub f), a.defers.map (ADef.sub f)⟩
def ARes.sub (f : Nat → Sb) : ARes → ARes
  | .ret x => .ret (x.sub f)
  | .pan x => .pan (x.sub f)

theorem ActR.sub {c c' : Cx} {f : Nat → Sb} (hf : Subs c c' f) {a : AAct} {act : Act} (h : ActR c a act) : ActR c' (a.sub f) act := by
  refine ⟨h.tmps.sub hf, ?_⟩
  have : ∀ {ds : List ADef} {Ds : List Deferred}, DefsR c ds Ds → DefsR c' (ds.map (ADef.sub f)) Ds := fun {ds Ds} hd => by
    induction hd with
    | nil => exact .nil
    | cons h _ ih =>
      obtain ⟨vs, h1, h2, h3⟩ := h
      exact .cons ⟨vs, h1, h2.sub hf, h3.sub hf⟩ ih
  exact this h.defers

theorem ResR.sub {c c' : Cx} {f : Nat → Sb} (hf : Subs c c' f) {r : ARes} {e : Ending} (h : ResR c r e) : ResR c' (r.sub f) e := by
  cases h with
  | ret h => exact .ret (h.sub hf)
  | pan h => exact .pan (h.sub hf)

theorem ResR.mono {c c' : Cx} (hle : Le c c') {r : ARes} {e : Ending} (h : ResR c r e) : ResR c' r e := by
  cases h with
  | ret h => exact .ret (h.mono hle)
  | pan h => exact .pan (h.mono hle)

section
variable {P : Program}

theorem AStk.freeze {h0 : AH} {k : List It} {a : AAct} {h : AH} {K : AExit → AAct → AH → Prop} (id : Nat) {sz : Nat} {es : List (List AV)} {lk : Bool} (hid : h[id]? = some (.arr sz es lk))
    (hh : AStk P h0 k (a.sub (frz id sz es)) (AH.freeze h id sz es) K) : AStk P h0 k a h K := by
  intro c0 c act hd he hs ha
  obtain ⟨c', e1, e2, e3, e4, e5⟩ := hs.freeze hid
  rw [← e1]
  exact hh c0 c' act hd (he.trans e2) e3 ((ha.mono e5).sub e4)

theorem ACalls.freeze {f : FuncId} {args : List AV} {h : AH} {K : ARes → AH → Prop} (id : Nat) {sz : Nat} {es : List (List AV)} {lk : Bool} (hid : h[id]? = some (.arr sz es lk))
    (hh : ACalls P f (args.map (AV.sub (frz id sz es))) (AH.freeze h id sz es) K) : ACalls P f args h K := by
  intro c vs hs hv
  obtain ⟨c', e1, e2, e3, e4, e5⟩ := hs.freeze hid
  rw [← e1]
  refine (hh c' vs e3 ((hv.mono e5).sub e4)).mono fun e w ⟨c2, h2, r, q1, q2, q3, q4, q5⟩ => ⟨c2, h2, r, q1, e2.trans q2, q3, q4, q5⟩

/-- The blocks that are kept, in a row. -/
def keep (m : Nat) (ks : List Nat) : Nat → Sb := fun i => if i < m then .to i else match pos ks i with
  | some j => .to (m + j)
  | none => .gone

def AH.keep (h : AH) (m : Nat) (ks : List Nat) : AH := (h.take m ++ ks.map fun i => h.getD i .dead).map (AB.sub (Vm.keep m ks))

theorem AStk.gc {h0 : AH} {k : List It} {a : AAct} {h : AH} {K : AExit → AAct → AH → Prop} (ks : List Nat) (hm : h0.length ≤ h.length) (hn : ks.Nodup) (hks : ∀ i ∈ ks, h0.length ≤ i ∧ i < h.length)
    (hh : AStk P h0 k (a.sub (Vm.keep h0.length ks)) (AH.keep h h0.length ks) K) : AStk P h0 k a h K := by
  intro c0 c act hd he hs ha
  let φ' : Nat → Option Loc := fun j => if j < h0.length then c.φ j else (ks[j - h0.length]?).bind c.φ
  have hsub : Subs c ⟨φ', c.L, c.w⟩ (Vm.keep h0.length ks) := by
    refine ⟨fun i j l a b => ?_, fun i sz es l a b => ?_, fun _ => Nat.le_refl _, fun _ _ _ => rfl⟩
    · unfold Vm.keep at a
      split at a
      · rename_i hlt; cases a; show φ' i = some l; simp only [φ', hlt, if_true]; exact b
      · split at a
        · rename_i k hp
          cases a
          show φ' (h0.length + k) = some l
          have := pos_some hp
          have hno : ¬ (h0.length + k < h0.length) := by omega
          simp only [φ', hno, if_false, Nat.add_sub_cancel_left, this, Option.bind_some]
          exact b
        · cases a
    · unfold Vm.keep at a
      split at a
      · cases a
      · split at a <;> cases a
  have hlen : (h.take h0.length).length = h0.length := by simp; omega
  have hget : ∀ j b, (AH.keep h h0.length ks)[j]? = some b → ∃ i b', h[i]? = some b' ∧ b = b'.sub (Vm.keep h0.length ks) ∧ φ' j = c.φ i ∧ ((j < h0.length ∧ i = j) ∨ (h0.length ≤ j ∧ ks[j - h0.length]? = some i)) := by
    intro j b hb
    unfold AH.keep at hb
    rw [List.getElem?_map, Option.map_eq_some_iff] at hb
    obtain ⟨b', hb, rfl⟩ := hb
    rcases Nat.lt_or_ge j h0.length with hj | hj
    · rw [List.getElem?_append_left (by rw [hlen]; exact hj), List.getElem?_take_of_lt hj] at hb
      exact ⟨j, b', hb, rfl, by simp [φ', hj], .inl ⟨hj, rfl⟩⟩
    · rw [List.getElem?_append_right (by rw [hlen]; exact hj), hlen, List.getElem?_map, Option.map_eq_some_iff] at hb
      obtain ⟨i, hi, hb⟩ := hb
      have hilt := (hks i (List.mem_of_getElem? hi)).2
      have hno : ¬ (j < h0.length) := by omega
      refine ⟨i, b', ?_, rfl, by simp [φ', hno, hi], .inr ⟨hj, hi⟩⟩
      rw [List.getElem?_eq_getElem hilt]
      simpa [List.getD_eq_getElem?_getD, hilt] using hb
  have hlive : ∀ j, liveAt (AH.keep h h0.length ks) j → ∃ i, liveAt h i ∧ φ' j = c.φ i ∧ ((j < h0.length ∧ i = j) ∨ (h0.length ≤ j ∧ ks[j - h0.length]? = some i)) := fun j ⟨b, e1, e2⟩ => by
    obtain ⟨i, b', g1, g2, g3, g4⟩ := hget j b e1
    subst g2
    exact ⟨i, ⟨b', g1, AB.sub_live e2⟩, g3, g4⟩
  refine hh c0 ⟨φ', c.L, c.w⟩ act hd ⟨⟨fun i l e => ?_, he.le.L, he.le.cell⟩, he.size, he.frame, fun b ⟨j, l, hj, e, hb⟩ => ?_, he.os, he.tape, he.output⟩ ⟨fun j hj => ?_, fun j b e1 e2 => ?_, fun i j li lj hi hj hij ei ej => ?_, hs.lock⟩ (ha.sub hsub)
  · have hlt : i < h0.length := by
      rcases Nat.lt_or_ge i h0.length with h' | h'
      · exact h'
      · rw [hd i h'] at e; cases e
    show φ' i = some l
    simp only [φ', hlt, if_true]
    exact he.le.φ i l e
  · obtain ⟨i, g1, g2, _⟩ := hlive j hj
    exact he.own b ⟨i, l, g1, by rw [← g2]; exact e, hb⟩
  · have hj' : h0.length + ks.length ≤ j := by unfold AH.keep at hj; simp at hj; omega
    show φ' j = none
    have hno : ¬ (j < h0.length) := by omega
    simp only [φ', hno, if_false]
    rw [List.getElem?_eq_none (by omega)]; rfl
  · obtain ⟨i, b', g1, g2, g3, g4⟩ := hget j b e1
    subst g2
    obtain ⟨l, f1, f2, f3⟩ := hs.blk i b' g1 (AB.sub_live e2)
    exact ⟨l, g3.trans f1, f2, f3.sub hsub rfl rfl⟩
  · obtain ⟨i', g1, g2, g3⟩ := hlive i hi
    obtain ⟨j', f1, f2, f3⟩ := hlive j hj
    refine hs.inj i' j' li lj g1 f1 (fun hee => hij ?_) (g2.symm.trans ei) (f2.symm.trans ej)
    subst hee
    rcases g3 with ⟨a1, a2⟩ | ⟨a1, a2⟩ <;> rcases f3 with ⟨b1, b2⟩ | ⟨b1, b2⟩
    · omega
    · have := (hks i' (List.mem_of_getElem? b2)).1; omega
    · have := (hks i' (List.mem_of_getElem? a2)).1; omega
    · have p1 := pos_get hn a2
      have p2 := pos_get hn b2
      rw [p1] at p2
      have := Option.some.inj p2
      omega

/-! ### A call whose contract speaks of a few blocks -/
def inn (ids : List Nat) : Nat → Sb := fun i => match pos ids i with
  | some k => .to k
  | none => .gone

def out (ids : List Nat) (n : Nat) : Nat → Sb := fun k => match ids[k]? with
  | some i => .to i
  | none => .to (n + (k - ids.length))

def putB : AH → List Nat → AH → AH
  | h, i :: ids, b :: bs => putB (h.set i b) ids bs
  | h, _, _ => h

def AH.back (h : AH) (ids : List Nat) (h1 : AH) : AH := putB h ids (h1.map (AB.sub (out ids h.length))) ++ (h1.drop ids.length).map (AB.sub (out ids h.length))

theorem putB_length : ∀ (ids : List Nat) (h bs : AH), (putB h ids bs).length = h.length
  | [], h, bs => by cases bs <;> rfl
  | i :: ids, h, [] => rfl
  | i :: ids, h, b :: bs => by simp only [putB]; rw [putB_length]; simp

theorem putB_get : ∀ (ids : List Nat) (h bs : AH), ids.Nodup → ids.length ≤ bs.length → ∀ j, j < h.length → (putB h ids bs)[j]? = match pos ids j with
    | some k => bs[k]?
    | none => h[j]?
  | [], h, bs, _, _, j, _ => by cases bs <;> simp [putB, pos]
  | i :: ids, h, [], _, hl, j, _ => by simp at hl
  | i :: ids, h, b :: bs, hn, hl, j, hj => by
    rw [List.nodup_cons] at hn
    simp only [putB]
    rw [putB_get ids _ bs hn.2 (by simpa using hl) j (by simpa using hj)]
    simp only [pos]
    by_cases hji : j = i
    · subst hji
      have : pos ids j = none := by
        cases hp : pos ids j with
        | none => rfl
        | some k => exact absurd (List.mem_of_getElem? (pos_some hp)) hn.1
      rw [this]
      simp [List.getElem?_set_self hj]
    · rw [if_neg hji]
      cases hp : pos ids j with
      | none => simp only; rw [List.getElem?_set_ne (Ne.symm hji)]
      | some k => simp

theorem ACalls.at {f : FuncId} {args xs : List AV} {h hf : AH} {K0 K : ARes → AH → Prop} (ids : List Nat) (hh : ACalls P f xs hf K0) (hargs : args.map (AV.sub (inn ids)) = xs)
    (hhf : ids.map (fun i => (h.getD i .dead).sub (inn ids)) = hf) (hnd : ids.Nodup) (hlive : ∀ i ∈ ids, (h.getD i .dead).live = true)
    (hk : ∀ r h1, K0 r h1 → hf.length ≤ h1.length ∧ K (r.sub (out ids h.length)) (h.back ids h1)) : ACalls P f args h K := by
  intro c vs hs hv
  have hlv : ∀ (k i : Nat), ids[k]? = some i → ∃ b l, h[i]? = some b ∧ b.live = true ∧ c.φ i = some l ∧ l.b < c.w.heap.size ∧ BR c l b ∧ i < h.length := fun k i hi => by
    have h1 := hlive i (List.mem_of_getElem? hi)
    cases hb : h[i]? with
    | none => rw [List.getD_eq_getElem?_getD, hb] at h1; cases h1
    | some b =>
      rw [List.getD_eq_getElem?_getD, hb] at h1
      obtain ⟨l, f1, f2, f3⟩ := hs.blk i b hb h1
      exact ⟨b, l, rfl, h1, f1, f2, f3, (List.getElem?_eq_some_iff.1 hb).1⟩
  let cf : Cx := ⟨fun k => (ids[k]?).bind c.φ, c.L, c.w⟩
  have hin : Subs c cf (inn ids) := by
    refine ⟨fun i j l a b => ?_, fun i sz es l a b => ?_, fun _ => Nat.le_refl _, fun _ _ _ => rfl⟩
    · unfold inn at a
      cases hp : pos ids i with
      | none => rw [hp] at a; cases a
      | some k => rw [hp] at a; cases a; show (ids[j]?).bind c.φ = some l; rw [pos_some hp]; exact b
    · unfold inn at a
      split at a <;> cases a
  have hlenf : hf.length = ids.length := by rw [← hhf]; simp
  have hgetf : ∀ k b, hf[k]? = some b → ∃ (i : Nat) (b' : AB), ids[k]? = some i ∧ h[i]? = some b' ∧ b = b'.sub (inn ids) := fun k b hb => by
    rw [← hhf, List.getElem?_map, Option.map_eq_some_iff] at hb
    obtain ⟨i, hi, rfl⟩ := hb
    obtain ⟨b', l, e1, _⟩ := hlv k i hi
    exact ⟨i, b', hi, e1, by rw [List.getD_eq_getElem?_getD, e1]; rfl⟩
  have hsf : Sim cf hf := by
    refine ⟨fun k hk => ?_, fun k b e1 e2 => ?_, fun k j lk lj hk hj hkj ek ej => ?_, hs.lock⟩
    · show (ids[k]?).bind c.φ = none
      rw [List.getElem?_eq_none (by omega)]; rfl
    · obtain ⟨i, b', g1, g2, rfl⟩ := hgetf k b e1
      obtain ⟨l, f1, f2, f3⟩ := hs.blk i b' g2 (AB.sub_live e2)
      exact ⟨l, by show (ids[k]?).bind c.φ = some l; rw [g1]; exact f1, f2, f3.sub hin rfl rfl⟩
    · obtain ⟨bk, a1, a2⟩ := hk
      obtain ⟨bj, a3, a4⟩ := hj
      obtain ⟨i1, b1, g1, g2, rfl⟩ := hgetf k bk a1
      obtain ⟨i2, b2, g3, g4, rfl⟩ := hgetf j bj a3
      have ek' : (ids[k]?).bind c.φ = some lk := ek
      have ej' : (ids[j]?).bind c.φ = some lj := ej
      rw [g1] at ek'
      rw [g3] at ej'
      refine hs.inj i1 i2 lk lj ⟨b1, g2, AB.sub_live a2⟩ ⟨b2, g4, AB.sub_live a4⟩ (fun he => hkj ?_) ek' ej'
      subst he
      have p1 := pos_get hnd g1
      have p2 := pos_get hnd g3
      rw [p1] at p2
      exact Option.some.inj p2
  have hownf : ∀ b, Owns cf hf b → ∃ k i l, ids[k]? = some i ∧ liveAt h i ∧ c.φ i = some l ∧ l.b = b := fun b ⟨k, l, ⟨bk, a1, a2⟩, e, hb⟩ => by
    obtain ⟨i, b', g1, g2, rfl⟩ := hgetf k bk a1
    have e' : (ids[k]?).bind c.φ = some l := e
    rw [g1] at e'
    exact ⟨k, i, l, g1, ⟨b', g2, AB.sub_live a2⟩, e', hb⟩
  have hvf : VRs cf xs vs.toList := by rw [← hargs]; exact hv.sub hin
  refine (hh cf vs hsf hvf).mono fun e w ⟨c1, h1, r, q1, q2, q3, q4, q5⟩ => ?_
  subst q1
  obtain ⟨k1, k2⟩ := hk r h1 q5
  let φ2 : Nat → Option Loc := fun i => if i < h.length then c.φ i else c1.φ (ids.length + (i - h.length))
  have hle : Le c ⟨φ2, c1.L, c1.w⟩ := by
    refine ⟨fun i l e => ?_, q2.le.L, q2.le.cell⟩
    have hlt : i < h.length := by
      rcases Nat.lt_or_ge i h.length with h' | h'
      · exact h'
      · rw [hs.dom i h'] at e; cases e
    show φ2 i = some l
    simp only [φ2, hlt, if_true]; exact e
  have hfix : ∀ k i, ids[k]? = some i → c1.φ k = c.φ i := fun k i hi => by
    obtain ⟨b, l, g1, g2, g3, g4, g5, g6⟩ := hlv k i hi
    rw [g3]
    exact q2.le.φ k l (by show (ids[k]?).bind c.φ = some l; rw [hi]; exact g3)
  have hout : Subs c1 ⟨φ2, c1.L, c1.w⟩ (out ids h.length) := by
    refine ⟨fun k j l a b => ?_, fun i sz es l a b => ?_, fun _ => Nat.le_refl _, fun _ _ _ => rfl⟩
    · unfold out at a
      cases hi : ids[k]? with
      | some i =>
        rw [hi] at a; cases a
        obtain ⟨_, l', _, _, _, _, _, g6⟩ := hlv k j hi
        show φ2 j = some l
        simp only [φ2, g6, if_true]
        rw [← hfix k j hi]; exact b
      | none =>
        have hno := hi
        rw [hi] at a; cases a
        have := List.getElem?_eq_none_iff.1 hno
        show φ2 _ = some l
        have h' : ¬ (h.length + (k - ids.length) < h.length) := by omega
        simp only [φ2, h', if_false]
        rw [show ids.length + (h.length + (k - ids.length) - h.length) = k by omega]
        exact b
    · unfold out at a
      split at a <;> cases a
  have hmlen : (h1.map (AB.sub (out ids h.length))).length = h1.length := by simp
  have hback : ∀ i b, (h.back ids h1)[i]? = some b → (i < h.length ∧ i ∉ ids ∧ h[i]? = some b) ∨ ∃ k b', h1[k]? = some b' ∧ b = b'.sub (out ids h.length) ∧ φ2 i = c1.φ k ∧ (ids[k]? = some i ∨ (h.length ≤ i ∧ k = ids.length + (i - h.length))) := by
    intro i b hb
    unfold AH.back at hb
    rcases Nat.lt_or_ge i h.length with hi | hi
    · rw [List.getElem?_append_left (by rw [putB_length]; exact hi), putB_get ids h _ hnd (by rw [hmlen]; omega) i hi] at hb
      split at hb
      · rename_i k hp
        rw [List.getElem?_map, Option.map_eq_some_iff] at hb
        obtain ⟨b', g1, rfl⟩ := hb
        have hki := pos_some hp
        exact .inr ⟨k, b', g1, rfl, by simp only [φ2, hi, if_true]; exact (hfix k i hki).symm, .inl hki⟩
      · rename_i hp
        exact .inl ⟨hi, pos_none hp, hb⟩
    · rw [List.getElem?_append_right (by rw [putB_length]; exact hi), putB_length, List.getElem?_map, Option.map_eq_some_iff] at hb
      obtain ⟨b', g1, rfl⟩ := hb
      rw [List.getElem?_drop] at g1
      have h' : ¬ (i < h.length) := by omega
      exact .inr ⟨ids.length + (i - h.length), b', g1, rfl, by simp only [φ2, h', if_false], .inr ⟨hi, rfl⟩⟩
  have hblk : ∀ i, liveAt (h.back ids h1) i → (i < h.length ∧ i ∉ ids ∧ liveAt h i ∧ φ2 i = c.φ i) ∨ ∃ k, liveAt h1 k ∧ φ2 i = c1.φ k ∧ (ids[k]? = some i ∨ (h.length ≤ i ∧ k = ids.length + (i - h.length))) := fun i ⟨b, e1, e2⟩ => by
    rcases hback i b e1 with ⟨g1, g2, g3⟩ | ⟨k, b', g1, rfl, g3, g4⟩
    · exact .inl ⟨g1, g2, ⟨b, g3, e2⟩, by simp only [φ2, g1, if_true]⟩
    · exact .inr ⟨k, ⟨b', g1, AB.sub_live e2⟩, g3, g4⟩
  have hapart : ∀ i k li lk, i ∉ ids → liveAt h i → c.φ i = some li → liveAt h1 k → c1.φ k = some lk → li.b ≠ lk.b := by
    intro i k li lk hi hl e1 hk e2 hne
    obtain ⟨bi, a1, a2⟩ := hl
    obtain ⟨l', f1, f2, _⟩ := hs.blk i bi a1 a2
    rw [e1] at f1; cases f1
    rcases q2.own lk.b ⟨k, lk, hk, e2, rfl⟩ with h' | h'
    · have : c.w.heap.size ≤ lk.b := h'
      omega
    · obtain ⟨k', i', l', g1, g2, g3, g4⟩ := hownf _ h'
      exact hs.inj i i' li l' ⟨bi, a1, a2⟩ g2 (fun he => hi (he ▸ List.mem_of_getElem? g1)) e1 g3 (hne.trans g4.symm)
  refine ⟨⟨φ2, c1.L, c1.w⟩, h.back ids h1, _, rfl, ⟨hle, q2.size, fun b hb hno => q2.frame b hb fun ho => ?_, fun b ⟨i, l, hi, e, hb⟩ => ?_, q2.os, q2.tape, q2.output⟩, ⟨fun i hi => ?_, fun i b e1 e2 => ?_, fun i j li lj hi hj hij ei ej => ?_, q3.lock⟩, q4.sub hout, k2⟩
  · obtain ⟨k, i, l, g1, g2, g3, g4⟩ := hownf _ ho
    exact hno ⟨i, l, g2, g3, g4⟩
  · rcases hblk i hi with ⟨g1, g2, g3, g4⟩ | ⟨k, g1, g2, g3⟩
    · exact .inr ⟨i, l, g3, g4.symm.trans e, hb⟩
    · rcases q2.own b ⟨k, l, g1, g2.symm.trans e, hb⟩ with h' | h'
      · exact .inl h'
      · obtain ⟨k', i', l', f1, f2, f3, f4⟩ := hownf _ h'
        exact .inr ⟨i', l', f2, f3, f4⟩
  · have hi' : h.length ≤ i ∧ h1.length ≤ ids.length + (i - h.length) := by
      unfold AH.back at hi
      simp only [List.length_append, putB_length, List.length_map, List.length_drop] at hi
      omega
    show φ2 i = none
    have h' : ¬ (i < h.length) := by omega
    simp only [φ2, h', if_false]
    exact q3.dom _ hi'.2
  · rcases hback i b e1 with ⟨g1, g2, g3⟩ | ⟨k, b', g1, rfl, g3, g4⟩
    · obtain ⟨l, f1, f2, f3⟩ := hs.blk i b g3 e2
      have hno : ¬ Owns cf hf l.b := fun ho => by
        obtain ⟨k', i', l', g1', g2', g3', g4'⟩ := hownf _ ho
        exact hs.inj i i' l l' ⟨b, g3, e2⟩ g2' (fun he => g2 (he ▸ List.mem_of_getElem? g1')) f1 g3' g4'.symm
      obtain ⟨m1, m2⟩ := q2.frame l.b f2 hno
      exact ⟨l, by show φ2 i = some l; simp only [φ2, g1, if_true]; exact f1, Nat.lt_of_lt_of_le f2 q2.size, f3.mono hle m1 m2⟩
    · obtain ⟨l, f1, f2, f3⟩ := q3.blk k b' g1 (AB.sub_live e2)
      exact ⟨l, g3.trans f1, f2, f3.sub hout rfl rfl⟩
  · rcases hblk i hi with ⟨g1, g2, g3, g4⟩ | ⟨k, g1, g2, g3⟩ <;> rcases hblk j hj with ⟨f1, f2, f3, f4⟩ | ⟨k', f1, f2, f3⟩
    · exact hs.inj i j li lj g3 f3 hij (g4.symm.trans ei) (f4.symm.trans ej)
    · exact hapart i k' li lj g2 g3 (g4.symm.trans ei) f1 (f2.symm.trans ej)
    · exact fun he => hapart j k lj li f2 f3 (f4.symm.trans ej) g1 (g2.symm.trans ei) he.symm
    · refine q3.inj k k' li lj g1 f1 (fun he => hij ?_) (g2.symm.trans ei) (f2.symm.trans ej)
      subst he
      rcases g3 with a | ⟨a1, a2⟩ <;> rcases f3 with b | ⟨b1, b2⟩
      · rw [a] at b; exact Option.some.inj b
      · have := (List.getElem?_eq_some_iff.1 a).1; omega
      · have := (List.getElem?_eq_some_iff.1 b).1; omega
      · omega

end
end Go.Vm


/- The abstract machine, part 24: loops; temporaries that are not looked at again; weaker values; what the machine's steps come to, for 'simp'. -/
namespace Go.Vm
open Go

section
variable {P : Program} {h0 : AH} {k : List It} {K : AExit → AAct → AH → Prop}

/-- A loop, by a number that falls. -/
theorem AStk.ind {x : Code} (Inv : Nat → AAct → AH → Prop) {n : Nat} {a : AAct} {h : AH} (h1 : Inv n a h)
    (h2 : ∀ n a h, Inv n a h → (∀ m a h, m < n → Inv m a h → AStk P h0 (.loop x :: k) a h K) → AStk P h0 (.code x :: .loop x :: k) a h K) : AStk P h0 (.loop x :: k) a h K := by
  induction n using Nat.strongRecOn generalizing a h with
  | ind n ih => exact AStk.round (h2 n a h h1 fun m a h hm hi => ih m hm hi)

/-- The temporaries that are looked at again. -/
def mask (live : List Nat) : Nat → List AV → List AV
  | _, [] => []
  | i, x :: l => (if live.contains i then x else .any) :: mask live (i + 1) l

theorem VRs.mask {c : Cx} (live : List Nat) : ∀ {l : List AV} {vs : List Value} (i : Nat), VRs c l vs → VRs c (Vm.mask live i l) vs
  | [], vs, i, h => h
  | x :: l, [], i, h => absurd h.1 (by simp)
  | x :: l, v :: vs, i, h => by
    have h0 := h.2 0 x v rfl rfl
    have ht : VRs c l vs := ⟨by simpa using h.1, fun j y u a b => h.2 (j + 1) y u (by simpa using a) (by simpa using b)⟩
    simp only [Vm.mask]
    refine VRs.cons ?_ (VRs.mask live (i + 1) ht)
    split
    · exact h0
    · exact .any

theorem AStk.live (live : List Nat) {a : AAct} {h : AH} (hh : AStk P h0 k ⟨mask live 0 a.tmps, a.defers⟩ h K) : AStk P h0 k a h K :=
  fun c0 c act hd he hs ha => hh c0 c act hd he hs ⟨ha.tmps.mask live 0, ha.defers⟩

/-- A value that says less. -/
def AV.Wk (x y : AV) : Prop := ∀ (c : Cx) (v : Value), VR c x v → VR c y v

theorem AV.Wk.refl (x : AV) : AV.Wk x x := fun _ _ h => h
theorem AV.Wk.nil (sz : Nat) : AV.Wk .nils (.ro sz []) := fun c v h => by cases h; exact .roNil
theorem AV.Wk.any (x : AV) : AV.Wk x .any := fun c v _ => .any

def WkL (xs ys : List AV) : Prop := xs.length = ys.length ∧ ∀ (i : Nat) (x y : AV), xs[i]? = some x → ys[i]? = some y → AV.Wk x y
def WkLL (xs ys : List (List AV)) : Prop := xs.length = ys.length ∧ ∀ (i : Nat) (x y : List AV), xs[i]? = some x → ys[i]? = some y → WkL x y

theorem WkL.refl (xs : List AV) : WkL xs xs := ⟨rfl, fun i x y a b => by rw [a] at b; cases b; exact AV.Wk.refl _⟩
theorem WkL.nil : WkL [] [] := WkL.refl _
theorem WkL.cons {x y : AV} {xs ys : List AV} (h : AV.Wk x y) (hs : WkL xs ys) : WkL (x :: xs) (y :: ys) := ⟨by simp [hs.1], fun i a b e1 e2 => by
  cases i with
  | zero => simp at e1 e2; subst e1; subst e2; exact h
  | succ i => exact hs.2 i a b (by simpa using e1) (by simpa using e2)⟩
theorem WkLL.refl (xs : List (List AV)) : WkLL xs xs := ⟨rfl, fun i x y a b => by rw [a] at b; cases b; exact WkL.refl _⟩
theorem WkLL.nil : WkLL [] [] := WkLL.refl _
theorem WkLL.cons {x y : List AV} {xs ys : List (List AV)} (h : WkL x y) (hs : WkLL xs ys) : WkLL (x :: xs) (y :: ys) := ⟨by simp [hs.1], fun i a b e1 e2 => by
  cases i with
  | zero => simp at e1 e2; subst e1; subst e2; exact h
  | succ i => exact hs.2 i a b (by simpa using e1) (by simpa using e2)⟩

theorem AV.Wk.agg {xs ys : List AV} (h : WkL xs ys) : AV.Wk (.agg xs) (.agg ys) := fun c v hv => by
  cases hv with
  | agg g0 g1 g2 =>
    refine .agg g0 (h.1 ▸ g1) fun i y v a b => ?_
    have hi : i < xs.length := by rw [h.1]; exact (List.getElem?_eq_some_iff.1 a).1
    exact h.2 i _ y (List.getElem?_eq_getElem hi) a c v (g2 i _ v (List.getElem?_eq_getElem hi) b)

theorem AV.Wk.tup {xs ys : List AV} (h : WkL xs ys) : AV.Wk (.tup xs) (.tup ys) := fun c v hv => by
  cases hv with
  | tup g1 g2 =>
    refine .tup (h.1 ▸ g1) fun i y v a b => ?_
    have hi : i < xs.length := by rw [h.1]; exact (List.getElem?_eq_some_iff.1 a).1
    exact h.2 i _ y (List.getElem?_eq_getElem hi) a c v (g2 i _ v (List.getElem?_eq_getElem hi) b)

theorem AV.Wk.ro {sz : Nat} {es fs : List (List AV)} (h : WkLL es fs) : AV.Wk (.ro sz es) (.ro sz fs) := fun c v hv => by
  have get : ∀ (i : Nat) (e : List AV) (j : Nat) (x : AV), fs[i]? = some e → e[j]? = some x → ∃ e' x', es[i]? = some e' ∧ e'[j]? = some x' ∧ AV.Wk x' x := fun i e j x a b => by
    have hi : i < es.length := by rw [h.1]; exact (List.getElem?_eq_some_iff.1 a).1
    have hw := h.2 i _ e (List.getElem?_eq_getElem hi) a
    have hj : j < es[i].length := by rw [hw.1]; exact (List.getElem?_eq_some_iff.1 b).1
    exact ⟨_, _, List.getElem?_eq_getElem hi, List.getElem?_eq_getElem hj, hw.2 j _ x (List.getElem?_eq_getElem hj) b⟩
  cases hv with
  | roNil =>
    have : fs = [] := List.length_eq_zero_iff.1 h.1.symm
    subst this; exact .roNil
  | ro vals hlen hcap hsz hc hv =>
    refine .ro vals (hlen.trans h.1) hcap (fun e he => ?_) (fun i e j x a b => ?_) (fun i e j x a b => ?_)
    · obtain ⟨i, hi, rfl⟩ := List.getElem_of_mem he
      have hi' : i < es.length := by rw [h.1]; exact hi
      have := (h.2 i _ _ (List.getElem?_eq_getElem hi') (List.getElem?_eq_getElem hi)).1
      rw [← this]; exact hsz _ (List.getElem_mem hi')
    · obtain ⟨e', x', a', b', _⟩ := get i e j x a b
      exact hc i e' j x' a' b'
    · obtain ⟨e', x', a', b', hw⟩ := get i e j x a b
      exact hw c _ (hv i e' j x' a' b')

/-- The result, as weaker. -/
inductive RWk : ARes → ARes → Prop
  | ret {x y} (h : AV.Wk x y) : RWk (.ret x) (.ret y)
  | pan {x y} (h : AV.Wk x y) : RWk (.pan x) (.pan y)

/-- The result with rows frozen. -/
inductive Tn (K : ARes → AH → Prop) : ARes → AH → Prop
  | done {r h} (hk : K r h) : Tn K r h
  | wk {r h} (r2 : ARes) (hr : RWk r r2) (hk : Tn K r2 h) : Tn K r h
  | fz {r h} (id : Nat) {sz : Nat} {es : List (List AV)} {lk : Bool} (hid : h[id]? = some (.arr sz es lk)) (hk : Tn K (r.sub (frz id sz es)) (AH.freeze h id sz es)) : Tn K r h

theorem Tn.run {K : ARes → AH → Prop} {r : ARes} {h : AH} (ht : Tn K r h) : ∀ {c : Cx} {e : Ending}, Sim c h → ResR c r e → ∃ c' h' r', c'.w = c.w ∧ Ext c h c' h' ∧ Sim c' h' ∧ ResR c' r' e ∧ K r' h' := by
  induction ht with
  | done hk => intro c e hs hr; exact ⟨c, _, _, rfl, Ext.refl c _, hs, hr, hk⟩
  | wk r2 hr _ ih =>
    intro c e hs h
    refine ih hs ?_
    cases hr with
    | ret g => cases h with | ret h' => exact .ret (g _ _ h')
    | pan g => cases h with | pan h' => exact .pan (g _ _ h')
  | fz id hid _ ih =>
    intro c e hs hr
    obtain ⟨c', e1, e2, e3, e4, e5⟩ := hs.freeze hid
    obtain ⟨c2, h2, r2, q1, q2, q3, q4, q5⟩ := ih e3 ((hr.mono e5).sub e4)
    exact ⟨c2, h2, r2, q1.trans e1, e2.trans q2, q3, q4, q5⟩

theorem ACalls.post {P : Program} {f : FuncId} {args : List AV} {h : AH} {K : ARes → AH → Prop} (hh : ACalls P f args h (Tn K)) : ACalls P f args h K := by
  intro c vs hs hv
  refine (hh c vs hs hv).mono fun e w ⟨c1, h1, r1, q1, q2, q3, q4, q5⟩ => ?_
  obtain ⟨c2, h2, r2, g1, g2, g3, g4, g5⟩ := q5.run q3 q4
  exact ⟨c2, h2, r2, g1.trans q1, q2.trans g2, g3, g4, g5⟩

/-- Arguments that say more than what is asked. -/
theorem ACalls.argsWk {f : FuncId} {args : List AV} {h : AH} {K : ARes → AH → Prop} (args' : List AV) (hw : WkL args args')
    (hh : ACalls P f args' h K) : ACalls P f args h K := fun c vs hs hv =>
  hh c vs hs ⟨hw.1 ▸ hv.1, fun i y v a b => by
    have hi : i < args.length := by rw [hw.1]; exact (List.getElem?_eq_some_iff.1 a).1
    exact hw.2 i _ y (List.getElem?_eq_getElem hi) a c v (hv.2 i _ v (List.getElem?_eq_getElem hi) b)⟩

/-- The temporaries, as weaker. -/
theorem AStk.wk {a : AAct} {ts : List AV} {h : AH} (hw : WkL a.tmps ts) (hh : AStk P h0 k ⟨ts, a.defers⟩ h K) : AStk P h0 k a h K :=
  fun c0 c act hd he hs ha => hh c0 c act hd he hs ⟨⟨hw.1 ▸ ha.tmps.1, fun i y v p q => by
    have hi : i < a.tmps.length := by rw [hw.1]; exact (List.getElem?_eq_some_iff.1 p).1
    exact hw.2 i _ y (List.getElem?_eq_getElem hi) p c v (ha.tmps.2 i _ v (List.getElem?_eq_getElem hi) q)⟩, ha.defers⟩

end

/-- Where nothing of a value hangs on a block. -/
def NoId (x : AV) : Prop := ∀ f, x.sub f = x

theorem NoId.closed {x : AV} (h : NoId x) : Closed x := fun c φ v hv => by
  have hf : Subs c ⟨φ, c.L, c.w⟩ (fun _ => .gone) := ⟨fun i j l a => (by cases a), fun i sz es l a => (by cases a), fun _ => Nat.le_refl _, fun _ _ _ => rfl⟩
  have := hv.sub hf
  rwa [h] at this

theorem QCall.intro {P : Program} {g : FuncId} {args : List AV} {R : AAct → AH → Prop} {a : AAct} {dst : Option Tmp} {h : AH} (x : AV) (h1 : ∀ y ∈ args, Closed y) (h2 : Closed x) (h3 : ACalls P g args [] (fun r _ => r = .ret x)) (h4 : R (a.put dst x) h) :
    QCall P g args R a dst h := ⟨x, h1, h2, h3, h4⟩

/-- A call of which all is known without any block. -/
theorem ACalls.ret {P : Program} {f : FuncId} {args : List AV} {h : AH} {K : ARes → AH → Prop} {x : AV} (h1 : ∀ y ∈ args, Closed y) (h2 : Closed x) (h3 : ACalls P f args [] (fun r _ => r = .ret x)) (h4 : K (.ret x) h) : ACalls P f args h K :=
  ACalls.frame h1 h3 fun r h' e => by subst e; exact ⟨h2, h4⟩

@[simp] theorem bytes_inj (a b : ByteArray) : (a.toList = b.toList) = (a = b) := by
  obtain ⟨a⟩ := a
  obtain ⟨b⟩ := b
  simp [ByteArray.toList_eq]
@[simp] theorem bytes_beq (a b : ByteArray) : (a.toList == b.toList) = decide (a = b) := by
  rw [Bool.eq_iff_iff]; simp

theorem clo_nil : ∀ y ∈ ([] : List AV), Closed y := fun y h => by simp at h
theorem clo_cons {x : AV} {l : List AV} (h : Closed x) (hs : ∀ y ∈ l, Closed y) : ∀ y ∈ x :: l, Closed y := fun y hy => by
  rcases List.mem_cons.1 hy with rfl | hy
  · exact h
  · exact hs y hy

@[simp] theorem subLL_append (f : Nat → Sb) (a b : List (List AV)) : subLL f (a ++ b) = subLL f a ++ subLL f b := by simp [subLL_map]
@[simp] theorem subL_append (f : Nat → Sb) (a b : List AV) : subL f (a ++ b) = subL f a ++ subL f b := by simp [subL_map]

theorem get_mid {α : Type} (xs : List α) (y : α) (ys : List α) : (xs ++ y :: ys)[xs.length]? = some y := by simp

attribute [simp] Value.oneCell' Value.cells AAct.put resultOf ofVal ofCell popBlk pickV ev AV.cells? TyI.isAgg setAt AV.one zeroCells fillA fillE structPlaces elems? isIntD AV.nil? constOp keyEq plainKey
attribute [simp] mask AV.sub subL subLL frz Vm.keep pos inn out putB AH.freeze AH.keep AH.back AAct.sub ADef.sub

section
variable {f : Nat → Sb}
@[simp] theorem AB.sub_dead : AB.sub f .dead = .dead := rfl
@[simp] theorem AB.sub_var (cs : List AV) : AB.sub f (.var cs) = .var (cs.map (AV.sub f)) := rfl
@[simp] theorem AB.sub_arr (sz : Nat) (es : List (List AV)) (lk : Bool) : AB.sub f (.arr sz es lk) = .arr sz (es.map fun e => e.map (AV.sub f)) lk := rfl
@[simp] theorem AB.sub_map (es : List (AV × AV × Nat)) (clk : Nat) : AB.sub f (.map es clk) = .map (es.map fun p => (p.1.sub f, p.2.1.sub f, p.2.2)) clk := rfl
@[simp] theorem AB.sub_siter (s : ByteArray) (pos : Nat) : AB.sub f (.siter s pos) = .siter s pos := rfl
@[simp] theorem AB.sub_miter0 (a : Nat) (l : List Nat) (b : Nat) : AB.sub f (.miter none a l b) = .miter none a l b := rfl
@[simp] theorem ARes.sub_ret (x : AV) : ARes.sub f (.ret x) = .ret (x.sub f) := rfl
@[simp] theorem ARes.sub_pan (x : AV) : ARes.sub f (.pan x) = .pan (x.sub f) := rfl
end

end Go.Vm


/- The abstract machine, part 25: from a call that is known without any block to the statements' form. -/
namespace Go.Vm
open Go Go.ChangeShapes Go.WideShapes Go.ChangeAt Go.RowKit

/-- What was there before lies as it did. -/
structure Kept (W W' : World) : Prop where
  heap : ∀ b, b < W.heap.size → W'.heap[b]? = W.heap[b]?
  size : W.heap.size ≤ W'.heap.size
  os : W'.os = W.os
  out : W'.output = W.output

theorem Kept.but {W W' : World} (h : Kept W W') (may : MemPlace → Prop) : W.keptBut W' may := by
  refine ⟨h.os, h.out, fun i hi => ?_⟩
  rw [h.heap i hi]
  cases W.heap[i]? with
  | none => rfl
  | some o => cases o <;> simp

theorem Kept.frozen {W W' : World} (h : Kept W W') (a : Addr) (ha : a.block < W.heap.size) : W'.frozen? a = W.frozen? a := by
  simp only [World.frozen?, h.heap a.block ha]

/-- A law's end: it answers 'v'; what it was given reads as it did. -/
theorem post_of_kept {H : Type} {enc : TypeId × Value → H} {P : Program} {f : Func} {s : ChangeSpec} {apart fresh handsOn again : Bool} {W W' : World} {args : Array Value} {v : Value} {ds gs : List (DataW H)} {before pa pv : List MemPlace}
    (hW : DataW.Whole enc P f.params.toList s.vars apart W args.toList ds gs before)
    (hres : ∀ (b : Nat) (sp : Nat → Bool) (hd : Bool), DataW.TrodAll enc P W' b sp hd f.resultTypes.toList (v.resultList f.resultTypes.size) (s.fn H (ds ++ gs)).results [])
    (hargs : ∀ sp : Nat → Bool, (∀ p ∈ before, sp p.block = true) → DataW.TrodAll enc P W' 0 sp true f.params.toList args.toList (s.fn H (ds ++ gs)).args pa)
    (hvars : ∀ sp : Nat → Bool, (∀ p ∈ before, sp p.block = true) → DataW.TrodVars enc P W' sp s.vars (s.fn H (ds ++ gs)).vars pv)
    (hps : before = pa ++ pv) (hk : Kept W W')
    (hok : ∀ (j : Nat) (t : TypeId) (r : Value), f.resultTypes[j]? = some t → (v.resultList f.resultTypes.size)[j]? = some r → Value.okWide P W' .any 0 t r) :
    s.post enc P f apart fresh handsOn again W args v W' := by
  have hold : ∀ p ∈ before, (fun b => decide (b < W.heap.size)) p.block = true := fun p hp => by simpa using hW.lt p hp
  have hlt : ∀ p ∈ before, p.block < W.heap.size := fun p hp => hW.lt p hp
  refine ⟨ds, gs, before, [], pa, pv, hW, hres _ _ _, hargs _ hold, hvars _ hold, World.keptBut_mono (fun p hp => ⟨hp, ?_⟩) (hk.but (· ∈ before)), fun _ => ?_⟩
  · rw [hps, List.mem_append] at hp
    exact Or.inr hp
  · obtain ⟨_, _, _, _, _, hz, hn⟩ := hW
    refine ⟨hok, _, _, ([] ++ pa) ++ pv, ⟨[] ++ pa, pv, trodAll_append (hargs _ (fun _ _ => rfl)) (hres _ _ _), hvars _ (fun _ _ => rfl), rfl, ?_, ?_⟩, ?_⟩
    · intro b off hp
      have hp' : MemPlace.cell b off ∈ before := by rw [hps]; simpa using hp
      rw [hk.frozen _ (hlt _ hp')]
      exact hz b off hp'
    · intro ha
      have := hn ha
      rw [hps] at this
      simpa using this
    · intro p hp _
      rw [hps]
      simpa using hp

/-- The blocks' cells, as many as there are: nobody writes them. -/
def cellsIn (w : World) (b : Nat) : Nat := match w.heap[b]? with
  | some (.cells vs _ _) => vs.size
  | _ => 0

def startCx (W : World) : Cx := ⟨fun _ => none, cellsIn W, W⟩

theorem startCx_sim (W : World) : Sim (startCx W) [] := by
  refine ⟨fun _ _ => rfl, fun i b e => by simp at e, fun i j li lj ⟨b, e, _⟩ => by simp at e, fun b hb => ?_⟩
  show b < W.heap.size
  have hb' : 0 < cellsIn W b := hb
  rcases Nat.lt_or_ge b W.heap.size with h | h
  · exact h
  · unfold cellsIn at hb'
    rw [Array.getElem?_eq_none h] at hb'
    simp at hb'

theorem calls_start {P : Program} {f : FuncId} {args : List AV} {x : AV} {vs : Array Value} {W : World} (h : ACalls P f args [] (fun r _ => r = .ret x)) (hv : VRs (startCx W) args vs.toList) :
    Calls P f vs W fun e w => ∃ (v : Value) (c : Cx), e = .returned v ∧ Kept W w ∧ VR c x v := by
  refine (h (startCx W) vs (startCx_sim W) hv).mono fun e w ⟨c, h', r, q1, q2, q3, q4, q5⟩ => ?_
  subst q1
  subst q5
  have hno : ∀ b, ¬ Owns (startCx W) [] b := fun b ⟨i, l, ⟨bl, e, _⟩, _⟩ => by simp at e
  cases q4 with
  | ret hr => exact ⟨_, c, rfl, ⟨fun b hb => (q2.frame b hb (hno b)).1, q2.size, q2.os, q2.output⟩, hr⟩

end Go.Vm


/- The abstract machine, part 26: the temporaries as a tree: quick to look at and to write. -/
namespace Go.Vm
open Go

inductive Tr where
  | e (d : AV)
  | n (v : AV) (l r : Tr)

def Tr.get : Tr → Nat → AV
  | .e d, _ => d
  | .n v l r, k => if k = 0 then v else if k % 2 = 1 then l.get (k / 2) else r.get (k / 2 - 1)

def Tr.set (t : Tr) (k : Nat) (x : AV) : Tr :=
  match t with
  | .e d => if k = 0 then .n x (.e d) (.e d) else if k % 2 = 1 then .n d ((Tr.e d).set (k / 2) x) (.e d) else .n d (.e d) ((Tr.e d).set (k / 2 - 1) x)
  | .n v l r => if k = 0 then .n x l r else if k % 2 = 1 then .n v (l.set (k / 2) x) r else .n v l (r.set (k / 2 - 1) x)
termination_by k
decreasing_by all_goals omega

theorem Tr.get_set : ∀ (k : Nat) (t : Tr) (x : AV) (j : Nat), (t.set k x).get j = if j = k then x else t.get j := by
  intro k
  induction k using Nat.strongRecOn with
  | ind k ih =>
    intro t x j
    rw [Tr.set.eq_def]
    cases t with
    | e d =>
      simp only
      by_cases h0 : k = 0
      · subst h0
        simp only [if_true, Tr.get]
        by_cases hj : j = 0 <;> simp [hj]
      · rw [if_neg h0]
        by_cases h1 : k % 2 = 1
        · rw [if_pos h1]
          simp only [Tr.get]
          by_cases hj : j = 0
          · subst hj; simp [Ne.symm h0]
          · rw [if_neg hj]
            by_cases hj1 : j % 2 = 1
            · rw [if_pos hj1, ih (k / 2) (by omega)]
              simp only [Tr.get]
              by_cases hjk : j = k
              · subst hjk; simp
              · rw [if_neg hjk, if_neg (by omega)]
            · rw [if_neg hj1, if_neg (by omega)]
        · rw [if_neg h1]
          simp only [Tr.get]
          by_cases hj : j = 0
          · subst hj; simp [Ne.symm h0]
          · rw [if_neg hj]
            by_cases hj1 : j % 2 = 1
            · rw [if_pos hj1, if_neg (by omega)]
            · rw [if_neg hj1, ih (k / 2 - 1) (by omega)]
              simp only [Tr.get]
              by_cases hjk : j = k
              · subst hjk; simp
              · rw [if_neg hjk, if_neg (by omega)]
    | n v l r =>
      simp only
      by_cases h0 : k = 0
      · subst h0
        simp only [if_true, Tr.get]
        by_cases hj : j = 0 <;> simp [hj]
      · rw [if_neg h0]
        by_cases h1 : k % 2 = 1
        · rw [if_pos h1]
          simp only [Tr.get]
          by_cases hj : j = 0
          · subst hj; simp [Ne.symm h0]
          · rw [if_neg hj]
            by_cases hj1 : j % 2 = 1
            · rw [if_pos hj1, ih (k / 2) (by omega)]
              by_cases hjk : j = k
              · subst hjk; simp
              · rw [if_neg hjk, if_neg (by omega)]
                simp [hj, hj1]
            · rw [if_neg hj1, if_neg (by omega)]
              simp [hj, hj1]
        · rw [if_neg h1]
          simp only [Tr.get]
          by_cases hj : j = 0
          · subst hj; simp [Ne.symm h0]
          · rw [if_neg hj]
            by_cases hj1 : j % 2 = 1
            · rw [if_pos hj1, if_neg (by omega)]
              simp [hj, hj1]
            · rw [if_neg hj1, ih (k / 2 - 1) (by omega)]
              by_cases hjk : j = k
              · subst hjk; simp
              · rw [if_neg hjk, if_neg (by omega)]
                simp [hj, hj1]

def Tr.map (f : AV → AV) : Tr → Tr
  | .e d => .e (f d)
  | .n v l r => .n (f v) (l.map f) (r.map f)

theorem Tr.get_map (f : AV → AV) : ∀ (t : Tr) (k : Nat), (t.map f).get k = f (t.get k)
  | .e d, k => by simp [Tr.map, Tr.get]
  | .n v l r, k => by
    simp only [Tr.map, Tr.get]
    split
    · rfl
    · split
      · exact Tr.get_map f l _
      · exact Tr.get_map f r _

/-- The list that a tree stands for. -/
def toL (n : Nat) (t : Tr) : List AV := (List.range n).map t.get

theorem toL_length (n : Nat) (t : Tr) : (toL n t).length = n := by simp [toL]

theorem toL_get (n : Nat) (t : Tr) (k : Nat) : (toL n t)[k]? = if k < n then some (t.get k) else none := by
  unfold toL
  rw [List.getElem?_map]
  split
  · rename_i h; rw [List.getElem?_range h]; rfl
  · rename_i h; rw [List.getElem?_eq_none (by simpa using h)]; rfl

theorem toL_set (n : Nat) (t : Tr) (k : Nat) (x : AV) : (toL n t).set k x = toL n (t.set k x) := by
  apply List.ext_getElem?
  intro j
  rw [toL_get, List.getElem?_set, toL_length, toL_get, Tr.get_set]
  by_cases h : k = j
  · subst h; simp
  · rw [if_neg h, if_neg (Ne.symm h)]

theorem toL_map (n : Nat) (t : Tr) (f : AV → AV) : (toL n t).map f = toL n (t.map f) := by
  apply List.ext_getElem?
  intro j
  rw [List.getElem?_map, toL_get, toL_get, Tr.get_map]
  split <;> rfl

theorem ev_toL (n : Nat) (t : Tr) (k : Tmp) : ev (toL n t) (.tmp k) = if k < n then t.get k else .undef := by
  simp only [ev, List.getD_eq_getElem?_getD, toL_get]
  split <;> rfl

theorem put_toL (n : Nat) (t : Tr) (ds : List ADef) (k : Tmp) (x : AV) : AAct.put ⟨toL n t, ds⟩ (some k) x = ⟨toL n (t.set k x), ds⟩ := by
  simp only [AAct.put, toL_set]

def ofL : List AV → Nat → Tr → Tr
  | [], _, t => t
  | x :: l, k, t => ofL l (k + 1) (t.set k x)

theorem ofL_get : ∀ (l : List AV) (k : Nat) (t : Tr) (j : Nat), (ofL l k t).get j = if j < k then t.get j else (l[j - k]?).getD (t.get j)
  | [], k, t, j => by simp [ofL]
  | x :: l, k, t, j => by
    simp only [ofL]
    rw [ofL_get l (k + 1) (t.set k x) j, Tr.get_set]
    by_cases h1 : j < k
    · rw [if_pos (by omega), if_pos h1, if_neg (by omega)]
    · rw [if_neg h1]
      by_cases h2 : j = k
      · subst h2; simp
      · rw [if_neg (by omega), if_neg h2]
        rw [show j - k = (j - (k + 1)) + 1 by omega]
        simp

theorem toL_args {args : List AV} {n : Nat} (h : args.length ≤ n) : args ++ List.replicate (n - args.length) AV.undef = toL n (ofL args 0 (.e .undef)) := by
  apply List.ext_getElem?
  intro j
  rw [toL_get, ofL_get]
  simp only [Nat.not_lt_zero, if_false, Nat.sub_zero, Tr.get]
  rcases Nat.lt_or_ge j args.length with hj | hj
  · rw [List.getElem?_append_left hj, if_pos (by omega), List.getElem?_eq_getElem hj]; rfl
  · rw [List.getElem?_append_right hj, List.getElem?_replicate]
    by_cases hn : j < n
    · rw [if_pos (by omega), if_pos hn, List.getElem?_eq_none hj]; rfl
    · rw [if_neg (by omega), if_neg hn]

/-- A call, by the function's own code; the temporaries as a tree. -/
theorem calls_tree {P : Program} (n : Nat) {f : FuncId} {fi : FnI} (hf : fnOf P f = some fi) {args : List AV} {h : AH} {K : ARes → AH → Prop} (hl : args.length ≤ fi.ntmps)
    (hh : run P (tabOf P) (fnOf P) h (EndsV (tabOf P) fi.results K) n [.code fi.body] ⟨toL fi.ntmps (ofL args 0 (.e .undef)), []⟩ h) : ACalls P f args h K :=
  calls_run n hf (by rw [toL_args hl]; exact hh)

/-- The temporaries that are looked at again. -/
def pickT (t : Tr) : List Nat → Tr → Tr
  | [], u => u
  | k :: l, u => pickT t l (u.set k (t.get k))

theorem pickT_get (t : Tr) : ∀ (l : List Nat) (u : Tr) (j : Nat), (pickT t l u).get j = t.get j ∨ (pickT t l u).get j = u.get j
  | [], u, j => .inr rfl
  | k :: l, u, j => by
    simp only [pickT]
    rcases pickT_get t l (u.set k (t.get k)) j with h | h
    · exact .inl h
    · rw [Tr.get_set] at h
      split at h
      · rename_i e; subst e; exact .inl h
      · exact .inr h

theorem AStk.liveT {P : Program} {h0 : AH} {k : List It} {K : AExit → AAct → AH → Prop} (live : List Nat) {n : Nat} {t : Tr} {ds : List ADef} {h : AH} (hh : AStk P h0 k ⟨toL n (pickT t live (.e .any)), ds⟩ h K) : AStk P h0 k ⟨toL n t, ds⟩ h K := by
  refine AStk.wk (ts := toL n (pickT t live (.e .any))) ⟨by simp [toL_length], fun i x y a b => ?_⟩ hh
  rw [toL_get] at a b
  split at a
  · rename_i hi
    rw [if_pos hi] at b
    cases a; cases b
    rcases pickT_get t live (.e .any) i with h | h
    · rw [h]; exact AV.Wk.refl _
    · rw [h]; exact AV.Wk.any _
  · cases a

def mkT : List (Nat × AV) → Tr → Tr
  | [], u => u
  | (k, x) :: l, u => mkT l (u.set k x)

theorem yieldA_toL (all : Array Oper) (n : Nat) (t : Tr) (j : Nat) : yieldA all (toL n t) j = match (all[j]?).bind (·.dst) with
    | some d => (match if d < n then t.get d else .undef with
      | .bool b => some (some b)
      | .undef => some none
      | _ => none)
    | none => some none := by
  unfold yieldA
  cases (all[j]?).bind (·.dst) with
  | none => rfl
  | some d =>
    simp only [toL_get]
    by_cases h : d < n
    · rw [if_pos h, if_pos h]
      cases t.get d <;> rfl
    · rw [if_neg h, if_neg h]

theorem qop_mono {P : Program} {T : Tab} {F : FTab} (hT : T.OK P) {o : Oper} {R R' : AAct → AH → Prop} (hr : ∀ a h, R a h → R' a h) {a : AAct} {h : AH} (hq : qop P T F o R a h) : qop P T F o R' a h := by
  unfold qop at hq ⊢
  split at hq
  · rename_i hc
    rw [if_pos hc]
    obtain ⟨b, nk, hb, h1, h2, _⟩ := aop_new hT (rowOp_new hc) hq
    obtain ⟨sz, es, rfl, rfl, q1, q2⟩ := QRowK.spec h1
    exact h2 [] _ ⟨rfl, q1, hr _ _ q2⟩
  rename_i hc
  rw [if_neg hc]
  split at hq
  · rename_i hc
    rw [if_pos hc]
    rw [Bool.or_eq_true] at hc
    rcases hc with hc | hc
    · obtain ⟨x, h1, h2⟩ := aop_quiet hc hq
      exact h2 _ (hr _ _ h1)
    · obtain ⟨b, nk, hb, h1, h2, _⟩ := aop_new hT hc hq
      exact h2 h _ (hr _ _ h1)
  · rename_i hc
    rw [if_neg hc]
    split at hq
    · obtain ⟨x, q1, q2, q3, q4⟩ := hq
      exact ⟨x, q1, q2, q3, hr _ _ q4⟩
    · exact hq.elim

/-- What comes later ('simp' must not look into it). -/
def LaterQ (P : Program) (T : Tab) (F : FTab) (all : Array Oper) (K : AAct → AH → Prop) (l : List Oper) (a : AAct) (h : AH) : Prop := qrun P T F all K l a h

theorem qrun_split {P : Program} {T : Tab} {F : FTab} (hT : T.OK P) {all : Array Oper} {K : AAct → AH → Prop} : ∀ (m : Nat) (l : List Oper) (a : AAct) (h : AH),
    qrun P T F all (LaterQ P T F all K (l.drop m)) (l.take m) a h → qrun P T F all K l a h
  | 0, l, a, h, hh => hh
  | m + 1, [], a, h, hh => hh
  | m + 1, o :: l, a, h, hh => by
    simp only [List.take_succ_cons, List.drop_succ_cons, qrun] at hh ⊢
    have ih := fun a h => qrun_split hT (K := K) (all := all) (F := F) m l a h
    split at hh
    · exact qop_mono hT ih hh
    · split at hh
      · split at hh
        · rename_i hb; rw [if_pos hb]; exact qop_mono hT ih hh
        · rename_i hb; rw [if_neg hb]; exact ih _ _ hh
      · exact ih _ _ hh
      · exact hh.elim

end Go.Vm


/- The abstract machine, part 27: calls by contracts up to weaker arguments; contracts that stand in the model's own words; what names no block, for 'simp'. -/
namespace Go.Vm
open Go

/-- A call of which all is known without any block, at arguments that say more than what is asked. -/
theorem ACalls.retW {P : Program} {f : FuncId} {args args' : List AV} {h : AH} {K : ARes → AH → Prop} {x : AV} (h3 : ACalls P f args' [] (fun r _ => r = .ret x)) (hw : WkL args args') (h1 : ∀ y ∈ args', Closed y) (h2 : Closed x) (h4 : K (.ret x) h) : ACalls P f args h K :=
  ACalls.argsWk args' hw (ACalls.ret h1 h2 h3 h4)

theorem ACalls.argsWk0 {P : Program} {f : FuncId} {args args' : List AV} {K : ARes → AH → Prop} (h3 : ACalls P f args' [] K) (hw : WkL args args') : ACalls P f args [] K := ACalls.argsWk args' hw h3

/-- A call that asks for no block, by a contract whose arguments say less: only where the arguments are the same but for what names no block. -/
theorem QCall.introW {P : Program} {g : FuncId} {args args' : List AV} {R : AAct → AH → Prop} {a : AAct} {dst : Option Tmp} {h : AH} {x : AV} (h3 : ACalls P g args' [] (fun r _ => r = .ret x)) (hw : WkL args args') (h1 : ∀ y ∈ args, Closed y) (h2 : Closed x) (h4 : R (a.put dst x) h) :
    QCall P g args R a dst h := QCall.intro x h1 h2 (ACalls.argsWk0 h3 hw) h4

@[simp] theorem clo_int {k : IntKind} {n : Int} : Closed (.int k n) := .int
@[simp] theorem clo_bool {b : Bool} : Closed (.bool b) := .bool
@[simp] theorem clo_str {s : ByteArray} : Closed (.str s) := .str
@[simp] theorem clo_nilp : Closed .nilp := .nilp
@[simp] theorem clo_nils : Closed .nils := .nils
@[simp] theorem clo_nilm : Closed .nilm := .nilm
@[simp] theorem clo_nilf : Closed .nilf := .nilf
@[simp] theorem clo_nili : Closed .nili := .nili
@[simp] theorem clo_undef : Closed .undef := .undef
@[simp] theorem clo_dead : Closed .dead := .dead
@[simp] theorem clo_any : Closed .any := .any
@[simp] theorem clo_iface {t : TypeId} {x : AV} (hx : Closed x) : Closed (.iface t x) := .iface hx
@[simp] theorem clo_agg {cs : List AV} (hx : ∀ x ∈ cs, Closed x) : Closed (.agg cs) := .agg hx
@[simp] theorem clo_tup {cs : List AV} (hx : ∀ x ∈ cs, Closed x) : Closed (.tup cs) := .tup hx
@[simp] theorem clo_fn {f : Fn} {xs ys : List AV} (hx : ∀ x ∈ xs, Closed x) (hy : ∀ x ∈ ys, Closed x) : Closed (.fn f xs ys) := .fn hx hy
@[simp] theorem clo_ro {sz : Nat} {es : List (List AV)} (hx : ∀ e ∈ es, ∀ x ∈ e, Closed x) : Closed (.ro sz es) := .ro hx
@[simp] theorem clo_rop {sz i off : Nat} {es : List (List AV)} (hx : ∀ e ∈ es, ∀ x ∈ e, Closed x) : Closed (.rop sz es i off) := .rop hx

/-- The model's memory has grown; what was there lies as it did. -/
structure Grew (W W' : World) : Prop where
  heap : ∀ b, b < W.heap.size → W'.heap[b]? = W.heap[b]?
  size : W.heap.size ≤ W'.heap.size
  os : W'.os = W.os
  tape : W'.tape = W.tape
  output : W'.output = W.output

theorem Grew.refl (W : World) : Grew W W := ⟨fun _ _ => rfl, Nat.le_refl _, rfl, rfl, rfl⟩

theorem Grew.ext {c : Cx} {h : AH} (hs : Sim c h) {w' : World} (hg : Grew c.w w') : Ext c h ⟨c.φ, c.L, w'⟩ h ∧ Sim ⟨c.φ, c.L, w'⟩ h := by
  have hle : Le c ⟨c.φ, c.L, w'⟩ := ⟨fun _ _ e => e, fun _ => Nat.le_refl _, fun b o ho => World.cell?_heap (hg.heap b (hs.lock b (by omega)))⟩
  refine ⟨⟨hle, hg.size, fun b hb _ => ⟨hg.heap b hb, rfl⟩, fun b hb => ?_, hg.os, hg.tape, hg.output⟩, ⟨hs.dom, fun i bl e1 e2 => ?_, fun i j li lj hi hj hij ei ej => hs.inj i j li lj hi hj hij ei ej, fun b hb => ?_⟩⟩
  · exact .inr hb
  · obtain ⟨l, f1, f2, f3⟩ := hs.blk i bl e1 e2
    exact ⟨l, f1, Nat.lt_of_lt_of_le f2 hg.size, f3.mono hle (hg.heap _ f2) rfl⟩
  · exact Nat.lt_of_lt_of_le (hs.lock b hb) hg.size

/-- A contract in the model's own words. -/
theorem ACalls.of_calls {P : Program} {f : FuncId} {args : List AV} {h : AH} {x : AV}
    (hc : ∀ (c : Cx) (vs : Array Value), VRs c args vs.toList → ∃ v, Calls P f vs c.w (fun e w' => e = .returned v ∧ Grew c.w w') ∧ ∀ c', VR c' x v) :
    ACalls P f args h (fun r h' => r = .ret x ∧ h' = h) := fun c vs hs hv => by
  obtain ⟨v, h1, h2⟩ := hc c vs hv
  refine h1.mono fun e w' ⟨he, hg⟩ => ?_
  subst he
  obtain ⟨e1, e2⟩ := hg.ext hs
  exact ⟨⟨c.φ, c.L, w'⟩, h, .ret x, rfl, e1, e2, .ret (h2 _), rfl, rfl⟩

theorem ACalls.of_calls0 {P : Program} {f : FuncId} {args : List AV} {x : AV}
    (hc : ∀ (c : Cx) (vs : Array Value), VRs c args vs.toList → ∃ v, Calls P f vs c.w (fun e w' => e = .returned v ∧ Grew c.w w') ∧ ∀ c', VR c' x v) :
    ACalls P f args [] (fun r _ => r = .ret x) := (ACalls.of_calls hc).mono fun _ _ h => h.1

/-- The same, for one value. -/
theorem VRs.str1 {c : Cx} {s : ByteArray} {l : List Value} (h : VRs c [.str s] l) : l = [.string s] := by
  obtain ⟨v, e, k⟩ := VRs.one h; cases k; exact e
theorem VRs.str2 {c : Cx} {s t : ByteArray} {l : List Value} (h : VRs c [.str s, .str t] l) : l = [.string s, .string t] := by
  obtain ⟨v, u, e, h1, h2⟩ := VRs.two h; cases h1; cases h2; exact e

theorem AStk.indE {P : Program} {h0 : AH} {k : List It} {K : AExit → AAct → AH → Prop} {x : Code} (Inv : Nat → AAct → AH → Prop) {a : AAct} {h : AH} (h1 : ∃ n, Inv n a h)
    (h2 : ∀ n a h, Inv n a h → (∀ m a h, m < n → Inv m a h → AStk P h0 (.loop x :: k) a h K) → AStk P h0 (.code x :: .loop x :: k) a h K) : AStk P h0 (.loop x :: k) a h K :=
  h1.elim fun _ h1 => AStk.ind Inv h1 h2

/-- A free place at the end. -/
theorem AStk.pad {P : Program} {h0 : AH} {k : List It} {K : AExit → AAct → AH → Prop} {a : AAct} {h : AH} (hh : AStk P h0 k a (h ++ [.dead]) K) : AStk P h0 k a h K := fun c0 c act hd he hs ha => by
  obtain ⟨h1, h2⟩ := hs.pad 1
  exact hh c0 c act hd (he.trans h2) h1 ha

/-- A slice that is appended to, from nil on: the value, and its block. -/
def accS (sz id : Nat) : List (List AV) → AV
  | [] => .nils
  | es => .sl id 0 es.length
def accB (sz : Nat) : List (List AV) → AB
  | [] => .dead
  | es => .arr sz es false
@[simp] theorem accS_nil (sz id : Nat) : accS sz id [] = .nils := rfl
@[simp] theorem accS_cons (sz id : Nat) (e : List AV) (es : List (List AV)) : accS sz id (e :: es) = .sl id 0 (es.length + 1) := rfl
@[simp] theorem accS_snoc (sz id : Nat) (e : List AV) (es : List (List AV)) : accS sz id (es ++ [e]) = .sl id 0 (es.length + 1) := by cases es <;> simp [accS]
@[simp] theorem accB_nil (sz : Nat) : accB sz [] = .dead := rfl
@[simp] theorem accB_cons (sz : Nat) (e : List AV) (es : List (List AV)) : accB sz (e :: es) = .arr sz (e :: es) false := rfl
@[simp] theorem accB_snoc (sz : Nat) (e : List AV) (es : List (List AV)) : accB sz (es ++ [e]) = .arr sz (es ++ [e]) false := by cases es <;> simp [accB]
@[simp] theorem accS_cells (sz id : Nat) (es : List (List AV)) : (accS sz id es).cells? = some [accS sz id es] := by cases es <;> rfl
@[simp] theorem accS_one (sz id : Nat) (es : List (List AV)) : (accS sz id es).one = true := by cases es <;> rfl
def accSub (sz : Nat) (es : List (List AV)) (f : Nat → Sb) : Sb → AV
  | .to j => accS sz j es
  | .ro sz' fs => match es with
    | [] => .nils
    | es => if 0 + es.length ≤ fs.length then .ro sz' ((fs.drop 0).take es.length) else .dead
  | .gone => match es with
    | [] => .nils
    | _ => .dead
@[simp] theorem accSub_to (sz : Nat) (es : List (List AV)) (f : Nat → Sb) (j : Nat) : accSub sz es f (.to j) = accS sz j es := rfl
@[simp ↓ high] theorem accS_sub (sz id : Nat) (es : List (List AV)) (f : Nat → Sb) : AV.sub f (accS sz id es) = accSub sz es f (f id) := by
  cases es <;> cases h : f id <;> simp [accSub, accS, AV.sub, h]
@[simp ↓ high] theorem accB_sub (sz : Nat) (es : List (List AV)) (f : Nat → Sb) : AB.sub f (accB sz es) = accB sz (es.map fun e => e.map (AV.sub f)) := by cases es <;> simp [AB.sub]

/-- An append to such a slice. -/
def aAppendX (T : Tab) (ts : List TypeId) (x y : AV) (h : AH) (K : AV → AH → Prop) : Prop := aAppend T ts x y h K

def aAppendAcc (T : Tab) (ts : List TypeId) (sz id : Nat) (es : List (List AV)) (y : AV) (h : AH) (K : AV → AH → Prop) : Prop :=
  match ts with
  | t :: u :: _ => (match T t, T u with
    | some { desc := .slice e, .. }, some ui => if isIntD ui.desc then aAppendX T ts (accS sz id es) y h K else (match T e with
      | some ei => if 0 < ei.size ∧ 0 < ei.bytes then (match elems? ei.size h y with
        | some (n0 :: ne) => if sz = ei.size ∧ (es.length + (n0 :: ne).length) * ei.bytes ≤ 140737488355328 then K (.sl h.length 0 (es.length + (n0 :: ne).length)) (h.set id .dead ++ [.arr sz (es ++ n0 :: ne) false]) else aAppendX T ts (accS sz id es) y h K
        | _ => aAppendX T ts (accS sz id es) y h K) else aAppendX T ts (accS sz id es) y h K
      | none => aAppendX T ts (accS sz id es) y h K)
    | _, _ => aAppendX T ts (accS sz id es) y h K)
  | _ => aAppendX T ts (accS sz id es) y h K

@[simp ↓ high] theorem aAppend_acc {T : Tab} {ts : List TypeId} {sz id : Nat} {es : List (List AV)} {y : AV} {h : AH} {K : AV → AH → Prop} (hid : h[id]? = some (accB sz es)) :
    aAppend T ts (accS sz id es) y h K = aAppendAcc T ts sz id es y h K := by
  have hd : es = [] → h.set id .dead = h := fun e => by
    subst e
    apply List.ext_getElem?
    intro i
    rw [List.getElem?_set]
    split
    · rename_i hi; subst hi; split
      · exact hid.symm
      · rename_i hn; rw [List.getElem?_eq_none (by omega)]
    · rfl
  unfold aAppendAcc
  (repeat' split) <;> first | rfl | skip
  rename_i t u _ _ _ e _ _ _ _ ui h1 h2 h3 _ ei h4 h5 _ n0 ne h6 h7
  unfold aAppend
  cases es with
  | nil =>
    obtain ⟨rfl, h8⟩ := h7
    simp only [List.length_nil, Nat.zero_add, List.nil_append] at h8 ⊢
    rw [hd rfl]
    simp_all [accS]
  | cons e0 es =>
    obtain ⟨rfl, h8⟩ := h7
    simp only [accB_cons] at hid
    simp_all [accS]

def aLenX (T : Tab) (ts : List TypeId) (x : AV) (h : AH) (K : AV → AH → Prop) : Prop := aLen T ts x h K
def aLenAcc (T : Tab) (ts : List TypeId) (sz id : Nat) (es : List (List AV)) (h : AH) (K : AV → AH → Prop) : Prop :=
  match ts with
  | t :: _ => (match T t with
    | some { desc := .slice _, .. } => K (.int .i64 es.length) h
    | _ => aLenX T ts (accS sz id es) h K)
  | _ => aLenX T ts (accS sz id es) h K
@[simp ↓ high] theorem aLen_acc {T : Tab} {ts : List TypeId} {sz id : Nat} {es : List (List AV)} {h : AH} {K : AV → AH → Prop} :
    aLen T ts (accS sz id es) h K = aLenAcc T ts sz id es h K := by
  unfold aLenAcc
  (repeat' split) <;> first | rfl | skip
  rename_i h1
  cases es <;> simp [aLen, h1, accS]

theorem Tn.wkRet {x y : AV} {h : AH} (hw : AV.Wk x y) : Tn (fun r _ => r = .ret y) (.ret x) h := .wk (.ret y) (.ret hw) (.done rfl)

/-- What a call leaves, with only some of its new blocks kept. -/
theorem ACalls.gc {P : Program} {f : FuncId} {args : List AV} {h : AH} {K : ARes → AH → Prop} (ks : List Nat) (hn : ks.Nodup)
    (hh : ACalls P f args h (fun r g => h.length ≤ g.length ∧ (∀ i ∈ ks, h.length ≤ i ∧ i < g.length) ∧ K (r.sub (Vm.keep h.length ks)) (AH.keep g h.length ks))) : ACalls P f args h K := by
  intro c vs hs0 hv
  refine (hh c vs hs0 hv).mono fun e w ⟨c1, g, r1, q1, he, hs, hr, hm, hks, hk⟩ => ?_
  let φ' : Nat → Option Loc := fun j => if j < h.length then c1.φ j else (ks[j - h.length]?).bind c1.φ
  have hsub : Subs c1 ⟨φ', c1.L, c1.w⟩ (Vm.keep h.length ks) := by
    refine ⟨fun i j l a b => ?_, fun i sz es l a b => ?_, fun _ => Nat.le_refl _, fun _ _ _ => rfl⟩
    · unfold Vm.keep at a
      split at a
      · rename_i hlt; cases a; show φ' i = some l; simp only [φ', hlt, if_true]; exact b
      · split at a
        · rename_i k hp
          cases a
          show φ' (h.length + k) = some l
          have := pos_some hp
          have hno : ¬ (h.length + k < h.length) := by omega
          simp only [φ', hno, if_false, Nat.add_sub_cancel_left, this, Option.bind_some]
          exact b
        · cases a
    · unfold Vm.keep at a
      split at a
      · cases a
      · split at a <;> cases a
  have hlen : (g.take h.length).length = h.length := by simp; omega
  have hget : ∀ j b, (AH.keep g h.length ks)[j]? = some b → ∃ i b', g[i]? = some b' ∧ b = b'.sub (Vm.keep h.length ks) ∧ φ' j = c1.φ i ∧ ((j < h.length ∧ i = j) ∨ (h.length ≤ j ∧ ks[j - h.length]? = some i)) := by
    intro j b hb
    unfold AH.keep at hb
    rw [List.getElem?_map, Option.map_eq_some_iff] at hb
    obtain ⟨b', hb, rfl⟩ := hb
    rcases Nat.lt_or_ge j h.length with hj | hj
    · rw [List.getElem?_append_left (by rw [hlen]; exact hj), List.getElem?_take_of_lt hj] at hb
      exact ⟨j, b', hb, rfl, by simp [φ', hj], .inl ⟨hj, rfl⟩⟩
    · rw [List.getElem?_append_right (by rw [hlen]; exact hj), hlen, List.getElem?_map, Option.map_eq_some_iff] at hb
      obtain ⟨i, hi, hb⟩ := hb
      have hilt := (hks i (List.mem_of_getElem? hi)).2
      have hno : ¬ (j < h.length) := by omega
      refine ⟨i, b', ?_, rfl, by simp [φ', hno, hi], .inr ⟨hj, hi⟩⟩
      rw [List.getElem?_eq_getElem hilt]
      simpa [List.getD_eq_getElem?_getD, hilt] using hb
  have hlive : ∀ j, liveAt (AH.keep g h.length ks) j → ∃ i, liveAt g i ∧ φ' j = c1.φ i ∧ ((j < h.length ∧ i = j) ∨ (h.length ≤ j ∧ ks[j - h.length]? = some i)) := fun j ⟨b, e1, e2⟩ => by
    obtain ⟨i, b', g1, g2, g3, g4⟩ := hget j b e1
    subst g2
    exact ⟨i, ⟨b', g1, AB.sub_live e2⟩, g3, g4⟩
  refine ⟨⟨φ', c1.L, c1.w⟩, AH.keep g h.length ks, _, q1, ⟨⟨fun i l e => ?_, he.le.L, he.le.cell⟩, he.size, he.frame, fun b ⟨j, l, hj, e, hb⟩ => ?_, he.os, he.tape, he.output⟩, ⟨fun j hj => ?_, fun j b e1 e2 => ?_, fun i j li lj hi hj hij ei ej => ?_, hs.lock⟩, hr.sub hsub, hk⟩
  · have hlt : i < h.length := by
      rcases Nat.lt_or_ge i h.length with h' | h'
      · exact h'
      · rw [hs0.dom i h'] at e; cases e
    show φ' i = some l
    simp only [φ', hlt, if_true]
    exact he.le.φ i l e
  · obtain ⟨i, g1, g2, _⟩ := hlive j hj
    exact he.own b ⟨i, l, g1, by rw [← g2]; exact e, hb⟩
  · have hj' : h.length + ks.length ≤ j := by unfold AH.keep at hj; simp at hj; omega
    show φ' j = none
    have hno : ¬ (j < h.length) := by omega
    simp only [φ', hno, if_false]
    rw [List.getElem?_eq_none (by omega)]; rfl
  · obtain ⟨i, b', g1, g2, g3, g4⟩ := hget j b e1
    subst g2
    obtain ⟨l, f1, f2, f3⟩ := hs.blk i b' g1 (AB.sub_live e2)
    exact ⟨l, g3.trans f1, f2, f3.sub hsub rfl rfl⟩
  · obtain ⟨i', g1, g2, g3⟩ := hlive i hi
    obtain ⟨j', f1, f2, f3⟩ := hlive j hj
    refine hs.inj i' j' li lj g1 f1 (fun hee => hij ?_) (g2.symm.trans ei) (f2.symm.trans ej)
    subst hee
    rcases g3 with ⟨a1, a2⟩ | ⟨a1, a2⟩ <;> rcases f3 with ⟨b1, b2⟩ | ⟨b1, b2⟩
    · omega
    · have := (hks i' (List.mem_of_getElem? b2)).1; omega
    · have := (hks i' (List.mem_of_getElem? a2)).1; omega
    · have p1 := pos_get hn a2
      have p2 := pos_get hn b2
      rw [p1] at p2
      have := Option.some.inj p2
      omega

/-- Where a key is, and with what: 'none' where that can't be told. -/
def findP (d : TypeDesc) (k : AV) : List (AV × AV × Nat) → Nat → Option (Option (Nat × AV))
  | [], _ => some none
  | (k', v, _) :: es, i =>
    match keyEq d k k' with
    | some b => if b = true then some (some (i, v)) else findP d k es (i + 1)
    | none => none

theorem findA_P {d : TypeDesc} {k : AV} {Ks : Nat → AV → Prop} {Kn : Prop} : ∀ (es : List (AV × AV × Nat)) (i : Nat), findA d k Ks Kn es i = match findP d k es i with
    | some (some (j, v)) => Ks j v
    | some none => Kn
    | none => False
  | [], i => by simp [findA, findP]
  | (k', v, n) :: es, i => by
    simp only [findA, findP]
    cases keyEq d k k' with
    | none => rfl
    | some b =>
      cases b with
      | true => simp
      | false => simp only [Bool.false_eq_true, if_false]; exact findA_P es (i + 1)

end Go.Vm


/- The abstract machine, part 30: regions that draw their order and hold one call that turns some blocks. -/
namespace Go.Vm
open Go

section
variable {P : Program}

/-- A call whose contract speaks of a few blocks, with the places kept. -/
theorem ACalls.atφ {f : FuncId} {args xs : List AV} {h hf : AH} {K0 : ARes → AH → Prop} (ids : List Nat) (hh : ACalls P f xs hf K0) (hargs : args.map (AV.sub (inn ids)) = xs)
    (hhf : ids.map (fun i => (h.getD i .dead).sub (inn ids)) = hf) (hnd : ids.Nodup) (hid : ∀ i ∈ ids, i < h.length)
    (hk : ∀ r h1, K0 r h1 → hf.length ≤ h1.length) {c : Cx} {vs : Array Value} (hs : Sim c h) (hv : VRs c args vs.toList) :
    Calls P f vs c.w fun e w => ∃ (c' : Cx) (h1 : AH) (r : ARes), c'.w = w ∧ K0 r h1 ∧ Ext c h c' (h.back ids h1) ∧ Sim c' (h.back ids h1) ∧ ResR c' (r.sub (out ids h.length)) e ∧ ∀ i, i < h.length → i ∉ ids → c'.φ i = c.φ i := by
  have hlv : ∀ (k i : Nat), ids[k]? = some i → ∃ b, h[i]? = some b ∧ i < h.length := fun k i hi => by
    have h1 := hid i (List.mem_of_getElem? hi)
    exact ⟨_, List.getElem?_eq_getElem h1, h1⟩
  let cf : Cx := ⟨fun k => (ids[k]?).bind c.φ, c.L, c.w⟩
  have hin : Subs c cf (inn ids) := by
    refine ⟨fun i j l a b => ?_, fun i sz es l a b => ?_, fun _ => Nat.le_refl _, fun _ _ _ => rfl⟩
    · unfold inn at a
      cases hp : pos ids i with
      | none => rw [hp] at a; cases a
      | some k => rw [hp] at a; cases a; show (ids[j]?).bind c.φ = some l; rw [pos_some hp]; exact b
    · unfold inn at a
      split at a <;> cases a
  have hlenf : hf.length = ids.length := by rw [← hhf]; simp
  have hgetf : ∀ k b, hf[k]? = some b → ∃ (i : Nat) (b' : AB), ids[k]? = some i ∧ h[i]? = some b' ∧ b = b'.sub (inn ids) := fun k b hb => by
    rw [← hhf, List.getElem?_map, Option.map_eq_some_iff] at hb
    obtain ⟨i, hi, rfl⟩ := hb
    obtain ⟨b', e1, _⟩ := hlv k i hi
    exact ⟨i, b', hi, e1, by rw [List.getD_eq_getElem?_getD, e1]; rfl⟩
  have hsf : Sim cf hf := by
    refine ⟨fun k hk => ?_, fun k b e1 e2 => ?_, fun k j lk lj hk hj hkj ek ej => ?_, hs.lock⟩
    · show (ids[k]?).bind c.φ = none
      rw [List.getElem?_eq_none (by omega)]; rfl
    · obtain ⟨i, b', g1, g2, rfl⟩ := hgetf k b e1
      obtain ⟨l, f1, f2, f3⟩ := hs.blk i b' g2 (AB.sub_live e2)
      exact ⟨l, by show (ids[k]?).bind c.φ = some l; rw [g1]; exact f1, f2, f3.sub hin rfl rfl⟩
    · obtain ⟨bk, a1, a2⟩ := hk
      obtain ⟨bj, a3, a4⟩ := hj
      obtain ⟨i1, b1, g1, g2, rfl⟩ := hgetf k bk a1
      obtain ⟨i2, b2, g3, g4, rfl⟩ := hgetf j bj a3
      have ek' : (ids[k]?).bind c.φ = some lk := ek
      have ej' : (ids[j]?).bind c.φ = some lj := ej
      rw [g1] at ek'
      rw [g3] at ej'
      refine hs.inj i1 i2 lk lj ⟨b1, g2, AB.sub_live a2⟩ ⟨b2, g4, AB.sub_live a4⟩ (fun he => hkj ?_) ek' ej'
      subst he
      have p1 := pos_get hnd g1
      have p2 := pos_get hnd g3
      rw [p1] at p2
      exact Option.some.inj p2
  have hownf : ∀ b, Owns cf hf b → ∃ k i l, ids[k]? = some i ∧ liveAt h i ∧ c.φ i = some l ∧ l.b = b := fun b ⟨k, l, ⟨bk, a1, a2⟩, e, hb⟩ => by
    obtain ⟨i, b', g1, g2, rfl⟩ := hgetf k bk a1
    have e' : (ids[k]?).bind c.φ = some l := e
    rw [g1] at e'
    exact ⟨k, i, l, g1, ⟨b', g2, AB.sub_live a2⟩, e', hb⟩
  have hvf : VRs cf xs vs.toList := by rw [← hargs]; exact hv.sub hin
  refine (hh cf vs hsf hvf).mono fun e w ⟨c1, h1, r, q1, q2, q3, q4, q5⟩ => ?_
  subst q1
  have k1 := hk r h1 q5
  let φ2 : Nat → Option Loc := fun i => match pos ids i with
    | some k => c1.φ k
    | none => if i < h.length then c.φ i else c1.φ (ids.length + (i - h.length))
  have hφin : ∀ k i, ids[k]? = some i → φ2 i = c1.φ k := fun k i hi => by simp only [φ2, pos_get hnd hi]
  have hposn : ∀ i, i ∉ ids → pos ids i = none := fun i hi => by
    cases hp : pos ids i with
    | none => rfl
    | some k => exact absurd (List.mem_of_getElem? (pos_some hp)) hi
  have hφno : ∀ i, i < h.length → i ∉ ids → φ2 i = c.φ i := fun i hi hno => by simp only [φ2, hposn i hno, hi, if_true]
  have hφbig : ∀ i, h.length ≤ i → φ2 i = c1.φ (ids.length + (i - h.length)) := fun i hi => by
    have h' : ¬ (i < h.length) := by omega
    simp only [φ2, hposn i (fun hm => h' (hid i hm)), h', if_false]
  have hle : Le c ⟨φ2, c1.L, c1.w⟩ := by
    refine ⟨fun i l e => ?_, q2.le.L, q2.le.cell⟩
    have hlt : i < h.length := by
      rcases Nat.lt_or_ge i h.length with h' | h'
      · exact h'
      · rw [hs.dom i h'] at e; cases e
    show φ2 i = some l
    cases hp : pos ids i with
    | none => rw [hφno i hlt (pos_none hp)]; exact e
    | some k =>
      have hki := pos_some hp
      rw [hφin k i hki]
      exact q2.le.φ k l (by show (ids[k]?).bind c.φ = some l; rw [hki]; exact e)
  have hout : Subs c1 ⟨φ2, c1.L, c1.w⟩ (out ids h.length) := by
    refine ⟨fun k j l a b => ?_, fun i sz es l a b => ?_, fun _ => Nat.le_refl _, fun _ _ _ => rfl⟩
    · unfold out at a
      cases hi : ids[k]? with
      | some i =>
        rw [hi] at a; cases a
        show φ2 j = some l
        rw [hφin k j hi]; exact b
      | none =>
        have hno := hi
        rw [hi] at a; cases a
        have := List.getElem?_eq_none_iff.1 hno
        show φ2 _ = some l
        rw [hφbig _ (by omega), show ids.length + (h.length + (k - ids.length) - h.length) = k by omega]
        exact b
    · unfold out at a
      split at a <;> cases a
  have hmlen : (h1.map (AB.sub (out ids h.length))).length = h1.length := by simp
  have hback : ∀ i b, (h.back ids h1)[i]? = some b → (i < h.length ∧ i ∉ ids ∧ h[i]? = some b) ∨ ∃ k b', h1[k]? = some b' ∧ b = b'.sub (out ids h.length) ∧ φ2 i = c1.φ k ∧ (ids[k]? = some i ∨ (h.length ≤ i ∧ k = ids.length + (i - h.length))) := by
    intro i b hb
    unfold AH.back at hb
    rcases Nat.lt_or_ge i h.length with hi | hi
    · rw [List.getElem?_append_left (by rw [putB_length]; exact hi), putB_get ids h _ hnd (by rw [hmlen]; omega) i hi] at hb
      split at hb
      · rename_i k hp
        rw [List.getElem?_map, Option.map_eq_some_iff] at hb
        obtain ⟨b', g1, rfl⟩ := hb
        have hki := pos_some hp
        exact .inr ⟨k, b', g1, rfl, hφin k i hki, .inl hki⟩
      · rename_i hp
        exact .inl ⟨hi, pos_none hp, hb⟩
    · rw [List.getElem?_append_right (by rw [putB_length]; exact hi), putB_length, List.getElem?_map, Option.map_eq_some_iff] at hb
      obtain ⟨b', g1, rfl⟩ := hb
      rw [List.getElem?_drop] at g1
      exact .inr ⟨ids.length + (i - h.length), b', g1, rfl, hφbig i hi, .inr ⟨hi, rfl⟩⟩
  have hblk : ∀ i, liveAt (h.back ids h1) i → (i < h.length ∧ i ∉ ids ∧ liveAt h i ∧ φ2 i = c.φ i) ∨ ∃ k, liveAt h1 k ∧ φ2 i = c1.φ k ∧ (ids[k]? = some i ∨ (h.length ≤ i ∧ k = ids.length + (i - h.length))) := fun i ⟨b, e1, e2⟩ => by
    rcases hback i b e1 with ⟨g1, g2, g3⟩ | ⟨k, b', g1, rfl, g3, g4⟩
    · exact .inl ⟨g1, g2, ⟨b, g3, e2⟩, hφno i g1 g2⟩
    · exact .inr ⟨k, ⟨b', g1, AB.sub_live e2⟩, g3, g4⟩
  have hapart : ∀ i k li lk, i ∉ ids → liveAt h i → c.φ i = some li → liveAt h1 k → c1.φ k = some lk → li.b ≠ lk.b := by
    intro i k li lk hi hl e1 hk e2 hne
    obtain ⟨bi, a1, a2⟩ := hl
    obtain ⟨l', f1, f2, _⟩ := hs.blk i bi a1 a2
    rw [e1] at f1; cases f1
    rcases q2.own lk.b ⟨k, lk, hk, e2, rfl⟩ with h' | h'
    · have : c.w.heap.size ≤ lk.b := h'
      omega
    · obtain ⟨k', i', l', g1, g2, g3, g4⟩ := hownf _ h'
      exact hs.inj i i' li l' ⟨bi, a1, a2⟩ g2 (fun he => hi (he ▸ List.mem_of_getElem? g1)) e1 g3 (hne.trans g4.symm)
  refine ⟨⟨φ2, c1.L, c1.w⟩, h1, r, rfl, q5, ⟨hle, q2.size, fun b hb hno => q2.frame b hb fun ho => ?_, fun b ⟨i, l, hi, e, hb⟩ => ?_, q2.os, q2.tape, q2.output⟩, ⟨fun i hi => ?_, fun i b e1 e2 => ?_, fun i j li lj hi hj hij ei ej => ?_, q3.lock⟩, q4.sub hout, fun i hi hno => hφno i hi hno⟩
  · obtain ⟨k, i, l, g1, g2, g3, g4⟩ := hownf _ ho
    exact hno ⟨i, l, g2, g3, g4⟩
  · rcases hblk i hi with ⟨g1, g2, g3, g4⟩ | ⟨k, g1, g2, g3⟩
    · exact .inr ⟨i, l, g3, g4.symm.trans e, hb⟩
    · rcases q2.own b ⟨k, l, g1, g2.symm.trans e, hb⟩ with h' | h'
      · exact .inl h'
      · obtain ⟨k', i', l', f1, f2, f3, f4⟩ := hownf _ h'
        exact .inr ⟨i', l', f2, f3, f4⟩
  · have hi' : h.length ≤ i ∧ h1.length ≤ ids.length + (i - h.length) := by
      unfold AH.back at hi
      simp only [List.length_append, putB_length, List.length_map, List.length_drop] at hi
      omega
    show φ2 i = none
    rw [hφbig i hi'.1]
    exact q3.dom _ hi'.2
  · rcases hback i b e1 with ⟨g1, g2, g3⟩ | ⟨k, b', g1, rfl, g3, g4⟩
    · obtain ⟨l, f1, f2, f3⟩ := hs.blk i b g3 e2
      have hno : ¬ Owns cf hf l.b := fun ho => by
        obtain ⟨k', i', l', g1', g2', g3', g4'⟩ := hownf _ ho
        exact hs.inj i i' l l' ⟨b, g3, e2⟩ g2' (fun he => g2 (he ▸ List.mem_of_getElem? g1')) f1 g3' g4'.symm
      obtain ⟨m1, m2⟩ := q2.frame l.b f2 hno
      exact ⟨l, by show φ2 i = some l; rw [hφno i g1 g2]; exact f1, Nat.lt_of_lt_of_le f2 q2.size, f3.mono hle m1 m2⟩
    · obtain ⟨l, f1, f2, f3⟩ := q3.blk k b' g1 (AB.sub_live e2)
      exact ⟨l, g3.trans f1, f2, f3.sub hout rfl rfl⟩
  · rcases hblk i hi with ⟨g1, g2, g3, g4⟩ | ⟨k, g1, g2, g3⟩ <;> rcases hblk j hj with ⟨f1, f2, f3, f4⟩ | ⟨k', f1, f2, f3⟩
    · exact hs.inj i j li lj g3 f3 hij (g4.symm.trans ei) (f4.symm.trans ej)
    · exact hapart i k' li lj g2 g3 (g4.symm.trans ei) f1 (f2.symm.trans ej)
    · exact fun he => hapart j k lj li f2 f3 (f4.symm.trans ej) g1 (g2.symm.trans ei) he.symm
    · refine q3.inj k k' li lj g1 f1 (fun he => hij ?_) (g2.symm.trans ei) (f2.symm.trans ej)
      subst he
      rcases g3 with a | ⟨a1, a2⟩ <;> rcases f3 with b | ⟨b1, b2⟩
      · rw [a] at b; exact Option.some.inj b
      · have := (List.getElem?_eq_some_iff.1 a).1; omega
      · have := (List.getElem?_eq_some_iff.1 b).1; omega
      · omega

theorem ACalls.at2 {f : FuncId} {args xs : List AV} {h hf : AH} {K0 K : ARes → AH → Prop} (ids : List Nat) (hh : ACalls P f xs hf K0) (hargs : args.map (AV.sub (inn ids)) = xs)
    (hhf : ids.map (fun i => (h.getD i .dead).sub (inn ids)) = hf) (hnd : ids.Nodup) (hid : ∀ i ∈ ids, i < h.length)
    (hk : ∀ r h1, K0 r h1 → hf.length ≤ h1.length ∧ K (r.sub (out ids h.length)) (h.back ids h1)) : ACalls P f args h K := fun c vs hs hv =>
  (hh.atφ ids hargs hhf hnd hid (fun r h1 hr => (hk r h1 hr).1) hs hv).mono fun e w ⟨c', h1, r, q1, q2, q3, q4, q5, _⟩ => ⟨c', _, _, q1, q3, q4, q5, (hk r h1 q2).2⟩

/-- Some blocks fall away. -/
def kills : AH → List Nat → AH
  | h, [] => h
  | h, i :: ids => kills (h.set i .dead) ids

theorem kills_length : ∀ (ids : List Nat) (h : AH), (kills h ids).length = h.length
  | [], h => rfl
  | i :: ids, h => by simp only [kills]; rw [kills_length]; simp

theorem kills_get : ∀ (ids : List Nat) (h : AH) (k : Nat), k < h.length → (kills h ids)[k]? = if k ∈ ids then some .dead else h[k]?
  | [], h, k, _ => by simp [kills]
  | i :: ids, h, k, hk => by
    simp only [kills]
    rw [kills_get ids _ k (by simpa using hk)]
    by_cases hki : k = i
    · subst hki
      by_cases hm : k ∈ ids <;> simp [hm, hk]
    · by_cases hm : k ∈ ids
      · simp [hm]
      · rw [if_neg hm, if_neg (by simp [hki, hm]), List.getElem?_set_ne (Ne.symm hki)]

theorem back_get {h : AH} {ids : List Nat} {h1 : AH} (hnd : ids.Nodup) (hl : ids.length ≤ h1.length) {k : Nat} (hk : k < h.length) (hno : k ∉ ids) : (h.back ids h1)[k]? = h[k]? := by
  unfold AH.back
  rw [List.getElem?_append_left (by rw [putB_length]; exact hk), putB_get ids h _ hnd (by simpa using hl) k hk]
  split
  · rename_i j hj; exact absurd (List.mem_of_getElem? (pos_some hj)) hno
  · rfl

theorem back_congr {h h' : AH} {ids : List Nat} {h1 : AH} (hnd : ids.Nodup) (hl : ids.length ≤ h1.length) (hlen : h.length = h'.length) (hg : ∀ k, k < h.length → k ∉ ids → h[k]? = h'[k]?) : h.back ids h1 = h'.back ids h1 := by
  unfold AH.back
  rw [hlen]
  congr 1
  apply List.ext_getElem?
  intro k
  rcases Nat.lt_or_ge k h.length with hk | hk
  · rw [putB_get ids h _ hnd (by simpa using hl) k hk, putB_get ids h' _ hnd (by simpa using hl) k (by omega)]
    cases hp : pos ids k with
    | none => exact hg k hk (pos_none hp)
    | some j => rfl
  · rw [List.getElem?_eq_none (by rw [putB_length]; exact hk), List.getElem?_eq_none (by rw [putB_length]; omega)]

theorem back_set {h : AH} {ids : List Nat} {h1 : AH} (hnd : ids.Nodup) (hl : ids.length ≤ h1.length) {s : Nat} {b : AB} (hs : s < h.length) (hno : s ∉ ids) : (AH.back h ids h1).set s b = AH.back (h.set s b) ids h1 := by
  unfold AH.back
  rw [List.set_append_left _ _ (by rw [putB_length]; exact hs)]
  congr 1
  · apply List.ext_getElem?
    intro k
    rcases Nat.lt_or_ge k h.length with hk | hk
    · rw [putB_get ids (h.set s b) _ hnd (by simpa using hl) k (by simpa using hk)]
      by_cases hks : k = s
      · subst hks
        rw [List.getElem?_set_self (by rw [putB_length]; exact hk)]
        cases hp : pos ids k with
        | none => simp [hk]
        | some j => exact absurd (List.mem_of_getElem? (pos_some hp)) hno
      · rw [List.getElem?_set_ne (Ne.symm hks), putB_get ids h _ hnd (by simpa using hl) k hk, List.getElem?_set_ne (Ne.symm hks)]
        simp
    · rw [List.getElem?_eq_none (by rw [List.length_set, putB_length]; exact hk), List.getElem?_eq_none (by rw [putB_length]; simpa using hk)]
  · simp

variable {T : Tab} {F : FTab} {all : Array Oper} {p : Nat}

/-- The heap: as it would be without the call, and the call's blocks behind it. -/
def HeapE (h0 : AH) (vs : List (AV × Option AB)) (ids : List Nat) (hf1 : AH) (e : Nat) (done : Nat → Prop) (g : AH) (φ : Nat → Option Loc) : Prop :=
  ∃ g0, HeapAt h0 vs done g0 φ ∧ (done e → g = AH.back g0 ids hf1) ∧ (¬ done e → g = g0)

theorem HeapE.quiet {h0 g : AH} {vs : List (AV × Option AB)} {ids : List Nat} {hf1 : AH} {e : Nat} {done done' : Nat → Prop} {φ : Nat → Option Loc} (hh : HeapE h0 vs ids hf1 e done g φ) {i : Nat} {x : AV} (hx : vs[i]? = some (x, none)) (hie : i ≠ e) (hd : ∀ j, done' j ↔ done j ∨ j = i) : HeapE h0 vs ids hf1 e done' g φ := by
  obtain ⟨g0, h1, h2, h3⟩ := hh
  have he : done' e ↔ done e := by rw [hd]; exact ⟨fun h => h.resolve_right (Ne.symm hie), .inl⟩
  exact ⟨g0, h1.quiet hx hd, fun h => h2 (he.1 h), fun h => h3 fun h' => h (he.2 h')⟩

theorem HeapE.rd {c : Cx} {h0 g : AH} {vs : List (AV × Option AB)} {ids : List Nat} {hf1 : AH} {e : Nat} {done : Nat → Prop} (hnd : ids.Nodup) (hl : ids.length ≤ hf1.length) (hid : ∀ i ∈ ids, i < h0.length) (hh : HeapE h0 vs ids hf1 e done g c.φ) (hs : Sim c g) (i : Nat) :
    Rd c (kills h0 ids ++ newsL (vs.take i)) := by
  obtain ⟨g0, h1, h2, h3⟩ := hh
  have hsame : ∀ k, k < g0.length → k ∉ ids → g[k]? = g0[k]? := fun k hk hno => by
    by_cases hde : done e
    · rw [h2 hde]; exact back_get hnd hl hk hno
    · rw [h3 hde]
  have hN : h0.length ≤ g0.length := by rw [h1.len]; simp
  intro id b l e1 e2 e3
  rcases Nat.lt_or_ge id h0.length with hk | hk
  · rw [List.getElem?_append_left (by rw [kills_length]; exact hk), kills_get ids h0 id hk] at e1
    split at e1
    · cases e1; cases e2
    · rename_i hno
      exact hs.rd id b l (by rw [hsame id (by omega) hno, h1.old id hk]; exact e1) e2 e3
  · rw [List.getElem?_append_right (by rw [kills_length]; exact hk), kills_length] at e1
    obtain ⟨j, x, f1, f2⟩ := newsL_get _ _ b e1
    have hji : j < i := by
      have := (List.getElem?_eq_some_iff.1 f1).1
      simp at this; omega
    rw [List.getElem?_take_of_lt hji] at f1
    rw [List.take_take, Nat.min_eq_left (by omega)] at f2
    have hslot : slotOf h0.length vs j = id := by rw [slotOf, f2]; omega
    have hlt : id < g0.length := by
      rw [h1.len, List.length_append]
      have := (List.getElem?_eq_some_iff.1 (newsL_slot f1)).1
      rw [← hslot]; unfold slotOf; omega
    have hno : id ∉ ids := fun hm => by have := hid id hm; omega
    by_cases hdj : done j
    · have := h1.yes j x b f1 hdj
      rw [hslot] at this
      exact hs.rd id b l (by rw [hsame id hlt hno]; exact this) e2 e3
    · have := (h1.no j x b f1 hdj).2
      rw [hslot, e3] at this; cases this

/-- The drawn part of the region, with one call that turns some blocks. -/
theorem draw_runE (hT : T.OK P) (hF : F.OK P) (hL : Lex all p) {a0 : AAct} {h0 hb : AH} {vs : List (AV × Option AB)} {k : List It} {K : AExit → AAct → AH → Prop} (hvl : vs.length = p) {ids : List Nat} {hf hf1 : AH} {e : Nat} {oe : Oper} {gf : FuncId} {args xs : List AV} {x0 : AV} (hnd : ids.Nodup) (hid : ∀ i ∈ ids, i < h0.length)
    (hep : e < p) (hoe : all[e]? = some oe) (hE1 : OnA all oe (puts ((all.toList.take p).take e) (vs.take e) a0) true) (hE2 : callOf F (ev (puts ((all.toList.take p).take e) (vs.take e) a0).tmps) oe = some (gf, args))
    (hE3 : ACalls P gf xs hf (fun r h1 => r = .ret x0 ∧ h1 = hf1)) (hE4 : args.map (AV.sub (inn ids)) = xs) (hE5 : ids.map (fun i => (h0.getD i .dead).sub (inn ids)) = hf) (hE6 : hf.length ≤ hf1.length) (hx0 : NoId x0) (hve : vs[e]? = some (x0, none))
    (hst : ∀ (i : Nat) (o : Oper) (x : AV) (b : Option AB), i ≠ e → (all.toList.take p)[i]? = some o → vs[i]? = some (x, b) → QStep P T F all o (puts ((all.toList.take p).take i) (vs.take i) a0) (kills h0 ids ++ newsL (vs.take i)) x b)
    (hK : AStk P hb (.ops all (all.toList.drop p) :: k) (puts (all.toList.take p) vs a0) (AH.back (h0 ++ newsL vs) ids hf1) K) {c00 : Cx} (hd0 : ∀ i, hb.length ≤ i → c00.φ i = none) :
    ∀ (fuel : Nat) (listed : Array Bool) (c : Cx) (act : Act) (tl : List AV) (g : AH), listed.size = all.size → (∀ i o, all[i]? = some o → DoneL listed i → ∀ d ∈ depsOf o, DoneL listed d) → (∀ i, DoneL listed i → i < p) →
      Cur (all.toList.take p) vs a0.tmps (DoneL listed) tl → ActR c ⟨tl, a0.defers⟩ act → HeapE h0 vs ids hf1 e (DoneL listed) g c.φ → Sim c g → Ext c00 hb c g → all.size ≤ fuel + (List.range p).countP (fun i => listed.getD i false) →
      wpAny P .any all (runsTo P (QL c00 hb K) k) fuel listed act c.w := by
  have hple := hL.le
  have hidl : ids.length ≤ hf1.length := by rw [← hE5] at hE6; simpa using hE6
  have hll : (all.toList.take p).length = p := by simp; omega
  have hget : ∀ (i : Nat) (o : Oper), (all.toList.take p)[i]? = some o → i < p ∧ all[i]? = some o := fun i o e => by
    have h1 := (List.getElem?_eq_some_iff.1 e).1
    rw [hll] at h1
    rw [List.getElem?_take_of_lt h1] at e
    exact ⟨h1, by simpa using e⟩
  have honce : ∀ (i j : Nat) (x y : Oper) (d : Tmp), i ≠ j → (all.toList.take p)[i]? = some x → (all.toList.take p)[j]? = some y → y.dst = some d → x.dst ≠ some d := fun i j x y d hne hx hy hd =>
    hL.once i j x y d (hget i x hx).1 (hget j y hy).1 hne (hget i x hx).2 (hget j y hy).2 hd
  have hvl' : vs.length = (all.toList.take p).length := by rw [hll]; exact hvl
  intro fuel
  induction fuel with
  | zero =>
    intro listed c act tl g hsz hcl hlt hcur ha hh hs hext hf
    have hcnt : (List.range p).countP (fun i => listed.getD i false) ≤ p := by
      have := List.countP_le_length (p := fun i => listed.getD i false) (l := List.range p)
      simpa using this
    have hall : ∀ i, i < p → DoneL listed i := by
      have : (List.range p).countP (fun i => listed.getD i false) = (List.range p).length := by simp only [List.length_range]; omega
      rw [List.countP_eq_length] at this
      exact fun i hi => this i (List.mem_range.2 hi)
    have hg : g = AH.back (h0 ++ newsL vs) ids hf1 := by
      obtain ⟨g0, q1, q2, _⟩ := hh
      rw [q2 (hall e hep), q1.full (fun i hi => hall i (by omega))]
    have htl : tl = (puts (all.toList.take p) vs a0).tmps := by
      have ht := cur_text hvl' honce (a := a0) p (by omega)
      rw [List.take_take, Nat.min_self, List.take_of_length_le (by omega : vs.length ≤ p)] at ht
      apply List.ext_getElem?
      intro t
      exact hcur.agree hvl' ht honce fun j o hj _ => ⟨fun h => hlt j h, fun h => hall j h⟩
    subst hg
    subst htl
    have := hK c00 c act hd0 hext hs ⟨ha.tmps, by rw [puts_defers]; exact ha.defers⟩
    exact wpAny_tail hL 0 p listed act c.w (Nat.le_refl _) hple hsz (fun i => ⟨hlt i, hall i⟩) (by omega) (by simpa only [runsTo] using this)
  | succ fuel ih =>
    intro listed c act tl g hsz hcl hlt hcur ha hh hs hext hf
    by_cases hall : ∀ i, i < p → DoneL listed i
    · have hg : g = AH.back (h0 ++ newsL vs) ids hf1 := by
        obtain ⟨g0, q1, q2, _⟩ := hh
        rw [q2 (hall e hep), q1.full (fun i hi => hall i (by omega))]
      have htl : tl = (puts (all.toList.take p) vs a0).tmps := by
        have ht := cur_text hvl' honce (a := a0) p (by omega)
        rw [List.take_take, Nat.min_self, List.take_of_length_le (by omega : vs.length ≤ p)] at ht
        apply List.ext_getElem?
        intro t
        exact hcur.agree hvl' ht honce fun j o hj _ => ⟨fun h => hlt j h, fun h => hall j h⟩
      subst hg
      subst htl
      have := hK c00 c act hd0 hext hs ⟨ha.tmps, by rw [puts_defers]; exact ha.defers⟩
      have hcnt : (List.range p).countP (fun i => listed.getD i false) ≤ p := by
        have := List.countP_le_length (p := fun i => listed.getD i false) (l := List.range p)
        simpa using this
      exact wpAny_tail hL (fuel + 1) p listed act c.w (Nat.le_refl _) hple hsz (fun i => ⟨hlt i, hall i⟩) (by omega) (by simpa only [runsTo] using this)
    · refine ⟨fun hr => ?_, fun i hi => ?_⟩
      · exfalso
        apply hall
        intro i
        induction i using Nat.strongRecOn with
        | ind i ihi =>
          intro hip
          apply Classical.byContradiction
          intro hnd
          have hin : i < all.size := by omega
          have : i ∈ Region.ready .any all listed := (ready_iff hsz).2 ⟨hnd, all[i], by simp [hin], fun d hd => by
            have := hL.edge i _ (by simp [hin]) d hd
            exact ihi d this (by omega)⟩
          rw [hr] at this; simp at this
      · obtain ⟨hnd0, o, ho, hdeps⟩ := (ready_iff hsz).1 hi
        have hin : i < all.size := (Array.getElem?_eq_some_iff.1 ho).1
        have hip : i < p := by
          rcases Nat.lt_or_ge i p with h' | h'
          · exact h'
          · exact absurd (fun j hj => (hL.tail j i h' hin (by omega)).ready hcl ho hdeps) hall
        have hol : (all.toList.take p)[i]? = some o := by rw [List.getElem?_take_of_lt hip]; simpa using ho
        have hvi : i < vs.length := by omega
        obtain ⟨x, b, hv⟩ : ∃ x b, vs[i]? = some (x, b) := ⟨vs[i].1, vs[i].2, List.getElem?_eq_getElem hvi⟩
        have hct := cur_text hvl' honce (a := a0) i (by omega)
        have hag : ∀ t ∈ o.looksAt all, tl[t]? = (puts ((all.toList.take p).take i) (vs.take i) a0).tmps[t]? := fun t ht =>
          hcur.agree hvl' hct honce fun j oj hj hd => by
            obtain ⟨hjp, hja⟩ := hget j oj hj
            by_cases hji : i = j
            · subst hji
              exact ⟨fun h => absurd h hnd0, fun h => absurd h (Nat.lt_irrefl i)⟩
            · obtain ⟨l1, l2⟩ := hL.looks i j o oj t hip hjp hji ho hja hd ht
              refine ⟨fun h => ?_, fun h => (l1 h).ready hcl ho hdeps⟩
              rcases Nat.lt_or_gt_of_ne hji with h' | h'
              · exact absurd ((l2 h').listed hcl h) hnd0
              · exact h'
        have hd' : ∀ j, DoneL (listed.setIfInBounds i true) j ↔ DoneL listed j ∨ j = i := fun j => getD_set (by omega)
        have hnext : ∀ (c' : Cx) (g' : AH) (v : Value), Le c c' → VR c' x v → HeapE h0 vs ids hf1 e (DoneL (listed.setIfInBounds i true)) g' c'.φ → Sim c' g' → Ext c00 hb c' g' →
            wpAny P .any all (runsTo P (QL c00 hb K) k) fuel (listed.setIfInBounds i true) (act.put o.dst v) c'.w := fun c' g' v hle hxv hh' hs' he' => by
          have hput := (ha.mono hle).put o.dst hxv
          have hdf : (AAct.put ⟨tl, a0.defers⟩ o.dst x).defers = a0.defers := by cases o.dst <;> rfl
          refine ih _ c' _ (AAct.put ⟨tl, a0.defers⟩ o.dst x).tmps g' (by simpa using hsz) (fun j oj hj hdj d hdd => ?_) (fun j hj => ?_) (hcur.step hvl' honce hol hv hd' rfl) ⟨hput.tmps, by rw [← hdf]; exact hput.defers⟩ hh' hs' he' ?_
          · rcases (hd' j).1 hdj with h' | h'
            · exact (hd' d).2 (.inl (hcl j oj hj h' d hdd))
            · subst h'; rw [ho] at hj; cases hj; exact (hd' d).2 (.inl (hdeps d hdd))
          · rcases (hd' j).1 hj with h' | h'
            · exact hlt j h'
            · omega
          · rw [cnt_set (f := fun i => listed.getD i false) (f' := fun j => (listed.setIfInBounds i true).getD j false) (by unfold DoneL at hnd0; simpa using hnd0) (fun j => ?_) hip]
            · omega
            · have := hd' j
              unfold DoneL at this
              rw [Bool.eq_iff_iff]
              simpa using this
        have hnd' := hnd0
        unfold wpOp
        rw [ho]
        simp only
        have hρ : ∀ y, VR c (ev tl y) (act.eval y) := fun y => ev_sound ha.tmps y
        by_cases hie : i = e
        · subst hie
          rw [hoe] at ho; cases ho
          rw [hve] at hv; cases hv
          have hon' : OnA all oe ⟨tl, a0.defers⟩ true := hE1.agree hag
          rw [if_pos (hon'.wanted ha)]
          rw [callOf_congr (fun y hy => (ev_agree hag y hy).symm)] at hE2
          obtain ⟨us, h1, h2⟩ := callOf_sound hF hρ hE2
          refine .inl ?_
          unfold Oper.wp
          rw [h1]
          obtain ⟨g0, q1, _, q3⟩ := hh
          have hgg := q3 hnd'
          subst hgg
          have hgetD : ∀ i ∈ ids, g.getD i .dead = h0.getD i .dead := fun i hi => by
            rw [List.getD_eq_getElem?_getD, List.getD_eq_getElem?_getD, q1.old i (hid i hi)]
          refine (hE3.atφ ids hE4 (by rw [← hE5]; exact List.map_congr_left fun i hi => by rw [hgetD i hi]) hnd (fun i hi => by have := hid i hi; rw [q1.len]; simp; omega) (fun r h1 ⟨_, e2⟩ => by subst e2; exact hE6) hs h2).mono fun en w ⟨c', h1', r, e1, ⟨e2, e3⟩, e4, e5, e6, e7⟩ => ?_
          subst e1; subst e2; subst e3
          have hx0' : AV.sub (out ids g.length) x0 = x0 := hx0 _
          simp only [ARes.sub, hx0'] at e6
          cases e6 with
          | ret hv' =>
            refine hnext c' _ _ e4.le hv' ⟨g, ⟨q1.len, q1.old, fun j y b ej hj => ?_, fun j y b ej hj => ?_⟩, fun _ => rfl, fun h => absurd ((hd' i).2 (.inr rfl)) h⟩ e5 (hext.trans e4)
            · rcases (hd' j).1 hj with h | h
              · exact q1.yes j y b ej h
              · subst h; rw [hve] at ej; cases ej
            · obtain ⟨n1, n2⟩ := q1.no j y b ej fun h => hj ((hd' j).2 (.inl h))
              have hlt : slotOf h0.length vs j < g.length := (List.getElem?_eq_some_iff.1 n1).1
              exact ⟨n1, by rw [e7 _ hlt (fun hm => by have := hid _ hm; unfold slotOf at this; omega)]; exact n2⟩
        have hq := hst i o x b hie hol hv
        generalize ha' : puts ((all.toList.take p).take i) (vs.take i) a0 = at' at hq hag
        cases hq with
        | off hon =>
          have hon' : OnA all o ⟨tl, a0.defers⟩ false := hon.agree hag
          rw [if_neg (by rw [hon'.wanted ha]; decide)]
          exact hnext c g undef (Le.refl c) .undef (hh.quiet hv hie hd') hs hext
        | quiet hon hq hk =>
          have hon' : OnA all o ⟨tl, a0.defers⟩ true := hon.agree hag
          rw [if_pos (hon'.wanted ha)]
          rw [aop_congr (fun y hy => (ev_agree hag y hy).symm)] at hk
          obtain ⟨v, h1, h2⟩ := aop_quiet_sound hT hq (hh.rd hnd hidl hid hs i) hρ hk
          refine .inl ?_
          unfold Oper.wp
          rw [h1]
          exact hnext c g v (Le.refl c) h2 (hh.quiet hv hie hd') hs hext
        | @row sz es hon hn hcl hk =>
          have hon' : OnA all o ⟨tl, a0.defers⟩ true := hon.agree hag
          rw [if_pos (hon'.wanted ha)]
          rw [aop_congr (fun y hy => (ev_agree hag y hy).symm)] at hk
          obtain ⟨b', nk', _, ⟨h1, h2⟩, _, h3⟩ := aop_new hT hn hk
          obtain ⟨ob, v, l, g1, g2, g3⟩ := h3 c act.eval hρ
          have hnk : nk' = .sl es.length := NK.inj (ANext.val.inj h1)
          have hbb : b' = .arr sz es false := by simpa using h2
          subst hnk
          subst hbb
          refine .inl ?_
          unfold Oper.wp
          rw [g2]
          obtain ⟨c', e1, e2, e3, e4, e5⟩ := hs.newRow g1 g3 hcl
          have := hnext c' g v e4.le e5 (by rw [e2]; exact hh.quiet hv hie hd') e3 (hext.trans e4)
          rw [e1] at this
          exact this
        | call hon hc hac hxc hk =>
          have hon' : OnA all o ⟨tl, a0.defers⟩ true := hon.agree hag
          rw [if_pos (hon'.wanted ha)]
          rw [callOf_congr (fun y hy => (ev_agree hag y hy).symm)] at hc
          obtain ⟨us, h1, h2⟩ := callOf_sound hF hρ hc
          refine .inl ?_
          unfold Oper.wp
          rw [h1]
          refine (hk.framed hac hxc hs h2).mono fun e w ⟨v, e1, c', e2, e3, e4, e5, e6⟩ => ?_
          subst e1
          subst e2
          exact hnext c' g v e4.le e6 (by rw [e3]; exact hh.quiet hv hie hd') e5 (hext.trans e4)
        | @new b nk hon hn hbl hk =>
          have hon' : OnA all o ⟨tl, a0.defers⟩ true := hon.agree hag
          rw [if_pos (hon'.wanted ha)]
          rw [aop_congr (fun y hy => (ev_agree hag y hy).symm)] at hk
          obtain ⟨b', nk', _, ⟨h1, h2⟩, _, h3⟩ := aop_new hT hn hk
          obtain ⟨ob, v, l, g1, g2, g3⟩ := h3 c act.eval hρ
          have hnk : nk' = nk := NK.inj (ANext.val.inj h1)
          have hbb : b' = b := by simpa using h2
          subst hnk
          subst hbb
          have hsl : (kills h0 ids ++ newsL (vs.take i)).length = slotOf h0.length vs i := by simp [slotOf, kills_length]
          refine .inl ?_
          unfold Oper.wp
          rw [g2]
          obtain ⟨g0, u1, u2, u3⟩ := hh
          obtain ⟨n1, n2⟩ := u1.no i _ b' hv hnd'
          have hslt : slotOf h0.length vs i < g0.length := (List.getElem?_eq_some_iff.1 n1).1
          have hsno : slotOf h0.length vs i ∉ ids := fun hm => by have := hid _ hm; unfold slotOf at this; omega
          have n1' : g[slotOf h0.length vs i]? = some .dead := by
            by_cases hde : DoneL listed e
            · rw [u2 hde, back_get hnd hidl hslt hsno]; exact n1
            · rw [u3 hde]; exact n1
          have hedone : DoneL (listed.setIfInBounds i true) e ↔ DoneL listed e := by rw [hd']; exact ⟨fun h => h.resolve_right (Ne.symm hie), .inl⟩
          obtain ⟨s1, s2⟩ := hs.newAt (o := ob) (b := b') (l := l) (w' := c.w.alloc ob) n1' n2 g1 rfl rfl rfl rfl fun hle hL0 => (g3 _ (slotOf h0.length vs i) hle rfl hL0 upd_same).1
          have hL0 : c.L l.b = 0 := by
            rcases Nat.eq_zero_or_pos (c.L l.b) with h' | h'
            · exact h'
            · have := hs.lock _ h'; omega
          refine hnext ⟨upd c.φ (slotOf h0.length vs i) l, c.L, c.w.alloc ob⟩ _ v s2.le ?_ ⟨_, u1.new hv hd', fun h => by rw [u2 (hedone.1 h), back_set hnd hidl hslt hsno], fun h => by rw [u3 fun h' => h (hedone.2 h')]⟩ s1 (hext.trans s2)
          rw [hsl]
          exact (g3 _ (slotOf h0.length vs i) s2.le rfl hL0 upd_same).2


theorem puts_append : ∀ (l1 l2 : List Oper) (v1 v2 : List (AV × Option AB)) (a : AAct), v1.length = l1.length → puts (l1 ++ l2) (v1 ++ v2) a = puts l2 v2 (puts l1 v1 a)
  | [], l2, [], v2, a, _ => by cases l2 <;> cases v2 <;> rfl
  | [], l2, v :: v1, v2, a, h => by simp at h
  | o :: l1, l2, [], v2, a, h => by simp at h
  | o :: l1, l2, v :: v1, v2, a, h => by simp only [List.cons_append, puts]; exact puts_append l1 l2 v1 v2 _ (by simpa using h)

/-- One call that turns some blocks, in a region that draws its order. -/
def ECall (P : Program) (T : Tab) (F : FTab) (all : Array Oper) (o : Oper) (ids : List Nat) (x0 : AV) (h0 hf1 : AH) (R : AAct → AH → Prop) (a : AAct) (h : AH) : Prop :=
  OnA all o a true ∧ match callOf F (ev a.tmps) o with
    | some (gf, args) => ACalls P gf (args.map (AV.sub (inn ids))) (ids.map fun i => (h0.getD i .dead).sub (inn ids)) (fun r h1 => r = .ret x0 ∧ h1 = hf1) ∧ ids.length ≤ hf1.length ∧ R (a.put o.dst x0) h
    | none => False

theorem ECall.spec {P : Program} {T : Tab} {F : FTab} {all : Array Oper} {o : Oper} {ids : List Nat} {x0 : AV} {h0 hf1 : AH} {R : AAct → AH → Prop} {a : AAct} {h : AH} (hh : ECall P T F all o ids x0 h0 hf1 R a h) :
    OnA all o a true ∧ ∃ gf args hf, callOf F (ev a.tmps) o = some (gf, args) ∧ ACalls P gf (args.map (AV.sub (inn ids))) hf (fun r h1 => r = .ret x0 ∧ h1 = hf1) ∧ ids.map (fun i => (h0.getD i .dead).sub (inn ids)) = hf ∧ hf.length ≤ hf1.length ∧ R (a.put o.dst x0) h := by
  obtain ⟨h1, h2⟩ := hh
  split at h2
  · rename_i gf args e
    exact ⟨h1, gf, args, _, e, h2.1, rfl, by simpa using h2.2.1, h2.2.2⟩
  · exact h2.elim

/-- A region that draws its order, with one call that turns some blocks: 'e' is its place. -/
theorem stk_drawE (hm : P.follows .mixedOrders = true) (hT : T.OK P) (hF : F.OK P) {i : Nat} {all : Array Oper} (p e : Nat) (hL : lexOK all p = true) {k : List It} {a : AAct} {hb h : AH} {K : AExit → AAct → AH → Prop}
    (ids : List Nat) (x0 : AV) (hf1 : AH) (hep : e < p) (hnd : ids.Nodup) (hid : ∀ i ∈ ids, i < h.length) (hx0 : NoId x0)
    (hq : qrun P T F all (fun a1 g1 => ECall P T F all (all.getD e default) ids x0 h hf1 (qrun P T F all (fun a h => AStk P hb (.ops all (all.toList.drop p) :: k) a (AH.back h ids hf1) K) ((all.toList.take p).drop (e + 1))) a1 g1) ((all.toList.take p).take e) a (kills h ids)) :
    AStk P hb (.code (.region i all true) :: k) a h K := by
  have hLex := lexOK_spec hL
  intro c0 c act hd0 he hs ha
  obtain ⟨vs1, hvs1⟩ := qrun_trace hT hq
  obtain ⟨h1, h2, h3⟩ := hvs1.at
  obtain ⟨hon, gf, args, hf, q1, q2, q3, q4, q5⟩ := h2.spec
  obtain ⟨vs2, hvs2⟩ := qrun_trace hT q5
  obtain ⟨g1, g2, g3⟩ := hvs2.at
  have hll : (all.toList.take p).length = p := by have := hLex.le; simp; omega
  have hl1 : ((all.toList.take p).take e).length = e := by rw [List.length_take, hll]; omega
  have hel : e < all.size := by have := hLex.le; omega
  have hoe : all[e]? = some (all.getD e default) := by simp [Array.getD, hel]
  have hmid : all.toList.take p = (all.toList.take p).take e ++ all.getD e default :: (all.toList.take p).drop (e + 1) := by
    conv => lhs; rw [← List.take_append_drop e (all.toList.take p)]
    congr 1
    rw [List.drop_eq_getElem_cons (by omega)]
    congr 1
    rw [List.getElem_take]
    have : all.getD e default = all[e] := by simp [Array.getD, hel]
    rw [this]; simp
  let vs := vs1 ++ (x0, none) :: vs2
  have hvlen : vs.length = p := by
    have hg : vs2.length = p - (e + 1) := by rw [g1, List.length_drop, hll]
    simp only [vs, List.length_append, List.length_cons, hg]
    rw [h1, hl1]; omega
  have hv1 : vs1.length = e := by rw [h1, hl1]
  have hte : vs.take e = vs1 := by simp only [vs]; rw [← hv1]; simp
  have hidl : ids.length ≤ hf1.length := by rw [← q3] at q4; simpa using q4
  have hnone : ∀ i, ¬ DoneL (Array.replicate all.size false) i := fun i => by simp [DoneL, Array.getD]
  have hnews : newsL vs = newsL vs1 ++ newsL vs2 := by simp [vs, newsL]
  have hputs : puts (all.toList.take p) vs a = puts ((all.toList.take p).drop (e + 1)) vs2 ((puts ((all.toList.take p).take e) vs1 a).put (all.getD e default).dst x0) := by
    rw [hmid]
    simp only [vs]
    rw [puts_append _ _ _ _ _ h1]
    rw [← hmid]
    rfl
  refine wp_region_any hm ?_
  have hw : Ext c h ⟨c.φ, c.L, { c.w with drawn := c.w.drawn + 1 }⟩ h := ⟨⟨fun _ _ e => e, fun _ => Nat.le_refl _, fun _ _ _ => rfl⟩, Nat.le_refl _, fun _ _ _ => ⟨rfl, rfl⟩, fun _ h => .inr h, rfl, rfl, rfl⟩
  have hs' : Sim ⟨c.φ, c.L, { c.w with drawn := c.w.drawn + 1 }⟩ h := ⟨hs.dom, fun i b e1 e2 => by
    obtain ⟨l, f1, f2, f3⟩ := hs.blk i b e1 e2
    exact ⟨l, f1, f2, f3.mono hw.le rfl rfl⟩, hs.inj, hs.lock⟩
  obtain ⟨s1, s2⟩ := hs'.pad (newsL vs).length
  refine draw_runE hT hF hLex hvlen hnd hid hep hoe (by rw [hte]; exact hon) (by rw [hte]; exact q1) q2 rfl q3 q4 hx0 (by simp only [vs]; rw [← hv1]; simp) (fun i o x b hie ho hv => ?_) ?_ hd0 all.size _ ⟨c.φ, c.L, { c.w with drawn := c.w.drawn + 1 }⟩ act a.tmps _ (by simp) (fun i o _ h => absurd h (hnone i)) (fun i h => absurd h (hnone i)) ⟨rfl, fun i o x b t _ _ h => absurd h (hnone i), fun t _ => rfl⟩ (ha.mono hw.le) ⟨_, HeapAt.start hs' vs hnone, fun h => absurd h (hnone e), fun _ => rfl⟩ s1 ((he.trans hw).trans s2) (by omega)
  · rcases Nat.lt_or_gt_of_ne hie with hlt | hgt
    · have hv' : vs1[i]? = some (x, b) := by simp only [vs] at hv; rwa [List.getElem?_append_left (by omega)] at hv
      have ho' : ((all.toList.take p).take e)[i]? = some o := by rw [List.getElem?_take_of_lt hlt]; exact ho
      have := h3 i o x b ho' hv'
      have ht : vs.take i = vs1.take i := by simp only [vs]; rw [List.take_append_of_le_length (by omega)]
      have ht2 : (all.toList.take p).take i = ((all.toList.take p).take e).take i := by
        have hh := @List.take_take _ i e (all.toList.take p)
        rw [hh, Nat.min_eq_left (by omega)]
      rw [ht, ht2]; exact this
    · obtain ⟨j, rfl⟩ : ∃ j, i = e + 1 + j := ⟨i - (e + 1), by omega⟩
      have hv' : vs2[j]? = some (x, b) := by
        simp only [vs] at hv
        rw [List.getElem?_append_right (by omega), hv1, show e + 1 + j - e = j + 1 by omega] at hv
        simpa using hv
      have ho' : ((all.toList.take p).drop (e + 1))[j]? = some o := by rw [List.getElem?_drop]; exact ho
      have := g3 j o x b ho' hv'
      have ht : vs.take (e + 1 + j) = vs1 ++ (x0, none) :: vs2.take j := by
        simp only [vs]
        rw [List.take_append, hv1, show e + 1 + j - e = j + 1 by omega, List.take_of_length_le (by omega)]
        simp
      have ht2 : (all.toList.take p).take (e + 1 + j) = (all.toList.take p).take e ++ all.getD e default :: ((all.toList.take p).drop (e + 1)).take j := by
        conv => lhs; rw [hmid]
        rw [List.take_append, hl1, show e + 1 + j - e = j + 1 by omega, List.take_of_length_le (by omega)]
        simp
      rw [ht, ht2, puts_append _ _ _ _ _ h1]
      have hn : newsL (vs1 ++ (x0, none) :: vs2.take j) = newsL vs1 ++ newsL (vs2.take j) := by simp [newsL]
      rw [hn, ← List.append_assoc]
      exact this
  · rw [hputs, hnews, ← List.append_assoc]
    have hbk : AH.back (h ++ newsL vs1 ++ newsL vs2) ids hf1 = AH.back (kills h ids ++ newsL vs1 ++ newsL vs2) ids hf1 := by
      refine back_congr hnd hidl (by simp [kills_length]) fun k hk hno => ?_
      rw [List.append_assoc, List.append_assoc]
      rcases Nat.lt_or_ge k h.length with hkl | hkl
      · rw [List.getElem?_append_left (l₁ := h) hkl, List.getElem?_append_left (l₁ := kills h ids) (by rw [kills_length]; exact hkl), kills_get ids h k hkl, if_neg hno]
      · rw [List.getElem?_append_right (l₁ := h) hkl, List.getElem?_append_right (l₁ := kills h ids) (by rw [kills_length]; exact hkl), kills_length]
    rw [hbk]
    exact g2

end
end Go.Vm


/- Terms as plain data, and how they lie in the abstract machine. -/
namespace Go.Vm
open Go

structure Tm where
  kind : Int
  n : Int
  s : ByteArray
  args : List Tm

instance : Inhabited Tm := ⟨⟨0, 0, .empty, []⟩⟩

mutual
def Tm.cells : Tm → List AV
  | ⟨k, n, s, a⟩ => [.int .i64 k, .int .i64 n, .str s, .ro 4 (encs a)]
def encs : List Tm → List (List AV)
  | [] => []
  | t :: l => t.cells :: encs l
end

abbrev Tm.enc (t : Tm) : List AV := [.int .i64 t.kind, .int .i64 t.n, .str t.s, .ro 4 (encs t.args)]

theorem Tm.cells_eq (t : Tm) : t.cells = t.enc := by cases t; simp [Tm.cells]
@[simp] theorem encs_nil : encs [] = [] := by simp [encs]
@[simp] theorem encs_cons (t : Tm) (l : List Tm) : encs (t :: l) = t.enc :: encs l := by simp [encs, Tm.cells_eq]
@[simp] theorem encs_length (l : List Tm) : (encs l).length = l.length := by induction l <;> simp [*]
@[simp] theorem encs_append (l m : List Tm) : encs (l ++ m) = encs l ++ encs m := by induction l <;> simp [*]
@[simp] theorem encs_take (l : List Tm) (k : Nat) : (encs l).take k = encs (l.take k) := by
  induction l generalizing k with
  | nil => simp
  | cons t l ih => cases k <;> simp [ih]
@[simp] theorem encs_drop (l : List Tm) (k : Nat) : (encs l).drop k = encs (l.drop k) := by
  induction l generalizing k with
  | nil => simp
  | cons t l ih => cases k <;> simp [ih]

theorem encs_map (l : List Tm) : encs l = l.map Tm.enc := by induction l <;> simp [*]

@[simp] theorem encs_get? (l : List Tm) (i : Nat) : (encs l)[i]? = (l[i]?).map Tm.enc := by rw [encs_map, List.getElem?_map]
@[simp] theorem encs_get (l : List Tm) (i : Nat) (h : i < (encs l).length) : (encs l)[i]'h = (l[i]'(by simpa using h)).enc := by simp only [encs_map, List.getElem_map]

theorem mid_facts {α : Type} {l ds es : List α} {x : α} (e : l = ds ++ x :: es) : ds.length < l.length ∧ (ds.length : Int) < l.length ∧ l[ds.length]? = some x ∧ (∀ h, l[ds.length]'h = x) ∧ l.length = ds.length + (es.length + 1) := by
  subst e; simp; omega

/-- How many parts. -/
def Tm.size : Tm → Nat
  | ⟨_, _, _, a⟩ => 1 + sizes a
where sizes : List Tm → Nat
  | [] => 0
  | t :: l => t.size + sizes l

abbrev sizes := Tm.size.sizes

theorem Tm.size_eq (t : Tm) : t.size = 1 + sizes t.args := by cases t; simp [Tm.size]
@[simp] theorem sizes_nil : sizes [] = 0 := by simp [sizes, Tm.size.sizes]
@[simp] theorem sizes_cons (t : Tm) (l : List Tm) : sizes (t :: l) = t.size + sizes l := by simp [sizes, Tm.size.sizes]
@[simp] theorem sizes_append (l m : List Tm) : sizes (l ++ m) = sizes l + sizes m := by induction l <;> simp [*]; omega
theorem Tm.size_pos (t : Tm) : 0 < t.size := by rw [t.size_eq]; omega
theorem length_le_sizes (l : List Tm) : l.length ≤ sizes l := by
  induction l with
  | nil => simp
  | cons t l ih => have := t.size_pos; simp; omega
theorem Tm.length_lt (t : Tm) : t.args.length < t.size := by have := length_le_sizes t.args; rw [t.size_eq]; omega
theorem size_mem {l : List Tm} {t : Tm} (h : t ∈ l) : t.size ≤ sizes l := by
  induction l with
  | nil => simp at h
  | cons u l ih =>
    rcases List.mem_cons.1 h with rfl | h
    · simp
    · have := ih h; simp; omega
/-- How deep. -/
def Tm.deep : Tm → Nat
  | ⟨_, _, _, a⟩ => deeps a + 1
where deeps : List Tm → Nat
  | [] => 0
  | t :: l => max t.deep (deeps l)
abbrev deeps := Tm.deep.deeps
theorem Tm.deep_eq (t : Tm) : t.deep = deeps t.args + 1 := by cases t; simp [Tm.deep]
@[simp] theorem deeps_nil : deeps [] = 0 := by simp [deeps, Tm.deep.deeps]
@[simp] theorem deeps_cons (t : Tm) (l : List Tm) : deeps (t :: l) = max t.deep (deeps l) := by simp [deeps, Tm.deep.deeps]
@[simp] theorem deeps_append (l m : List Tm) : deeps (l ++ m) = max (deeps l) (deeps m) := by induction l <;> simp [*, Nat.max_assoc]

theorem deep_le_size (t : Tm) : t.deep ≤ t.size := by
  suffices ∀ (m : Nat), (∀ t : Tm, t.size < m → t.deep ≤ t.size) from this _ t (Nat.lt_succ_self _)
  intro m
  induction m with
  | zero => intro t h; omega
  | succ m ih =>
    intro t ht
    have hl : ∀ l : List Tm, sizes l ≤ m - 0 → sizes l < m → deeps l ≤ sizes l := by
      intro l h1 h2
      induction l with
      | nil => simp
      | cons u l ihl => simp at h1 h2 ⊢; have := ih u (by omega); have := ihl (by omega) (by omega); omega
    have := t.size_eq
    rw [t.deep_eq, t.size_eq]
    have := hl t.args (by omega) (by omega)
    omega
theorem Tm.size_lt {t u : Tm} (h : u ∈ t.args) : u.size < t.size := by have := size_mem h; rw [t.size_eq]; omega

/-! Terms have no block. -/
mutual
theorem cells_noid (f : Nat → Sb) : ∀ t : Tm, subL f t.cells = t.cells
  | ⟨k, n, s, a⟩ => by simp [Tm.cells, encs_noid f a]
theorem encs_noid (f : Nat → Sb) : ∀ l : List Tm, subLL f (encs l) = encs l
  | [] => by simp
  | t :: l => by simp only [encs, subLL, cells_noid f t, encs_noid f l]
end
attribute [simp] encs_noid

@[simp] theorem encs_noid_map (f : Nat → Sb) (l : List Tm) : (encs l).map (fun e => e.map (AV.sub f)) = encs l := by rw [← subLL_map]; exact encs_noid f l
@[simp] theorem closed_encs (l : List Tm) : Closed (.ro 4 (encs l)) := NoId.closed fun f => by simp
@[simp] theorem mem_encs {l : List Tm} {e : List AV} (h : e ∈ encs l) : e.length = 4 := by
  rw [encs_map] at h
  obtain ⟨t, _, rfl⟩ := List.mem_map.1 h
  rfl

theorem Tm.closed (t : Tm) : ∀ x ∈ t.enc, Closed x := by simp

/-- The same term? -/
noncomputable def Tm.eqb (t u : Tm) : Bool := @decide (t = u) (Classical.propDecidable _)
@[simp] theorem Tm.eqb_self (t : Tm) : t.eqb t = true := by simp [Tm.eqb]
theorem Tm.eqb_iff (t u : Tm) : t.eqb u = true ↔ t = u := by simp [Tm.eqb]
theorem Tm.eqb_ne {t u : Tm} (h : t ≠ u) : t.eqb u = false := by simp [Tm.eqb, h]
theorem Tm.ext4 {t u : Tm} (h1 : t.kind = u.kind) (h2 : t.n = u.n) (h3 : t.s = u.s) (h4 : t.args = u.args) : t = u := by
  cases t; cases u; simp_all

/-- Induction on a term by its size. -/
theorem Tm.ind {C : Tm → Prop} (h : ∀ t, (∀ u ∈ t.args, C u) → C t) (t : Tm) : C t := by
  suffices ∀ (m : Nat) (t : Tm), t.size < m → C t from this _ t (Nat.lt_succ_self _)
  intro m
  induction m with
  | zero => intro t h; omega
  | succ m ih => intro t ht; exact h t fun u hu => ih u (by have := Tm.size_lt hu; omega)

theorem wrap64 {n : Int} (h1 : -9223372036854775808 ≤ n) (h2 : n < 9223372036854775808) : IntKind.i64.wrap n = n := by
  simp [IntKind.wrap, IntKind.bits, IntKind.signed]; omega

/-- What the law's parts are. -/
structure Pt where
  kind : Int
  n : Int
  s : ByteArray
  args : Int

abbrev Pt.enc (p : Pt) : List AV := [.int .i64 p.kind, .int .i64 p.n, .str p.s, .int .u8 p.args]

/-- A list as cells, element by element. -/
def encL {α : Type} (f : α → List AV) : List α → List (List AV)
  | [] => []
  | x :: l => f x :: encL f l
section
variable {α : Type} {f : α → List AV}
@[simp] theorem encL_nil : encL f [] = [] := rfl
@[simp] theorem encL_cons (x : α) (l : List α) : encL f (x :: l) = f x :: encL f l := rfl
theorem encL_map (l : List α) : encL f l = l.map f := by induction l <;> simp [*]
@[simp] theorem encL_length (l : List α) : (encL f l).length = l.length := by simp [encL_map]
@[simp] theorem encL_append (l m : List α) : encL f (l ++ m) = encL f l ++ encL f m := by simp [encL_map]
@[simp] theorem encL_take (l : List α) (k : Nat) : (encL f l).take k = encL f (l.take k) := by simp [encL_map]
@[simp] theorem encL_drop (l : List α) (k : Nat) : (encL f l).drop k = encL f (l.drop k) := by simp [encL_map]
@[simp] theorem encL_get? (l : List α) (i : Nat) : (encL f l)[i]? = (l[i]?).map f := by simp [encL_map]
@[simp] theorem encL_get (l : List α) (i : Nat) (h : i < (encL f l).length) : (encL f l)[i]'h = f (l[i]'(by simpa using h)) := by simp [encL_map]
theorem encL_noid (g : Nat → Sb) (hf : ∀ x, subL g (f x) = f x) (l : List α) : subLL g (encL f l) = encL f l := by induction l <;> simp [*, subLL]
theorem encL_closed {sz : Nat} (hf : ∀ g x, subL g (f x) = f x) (l : List α) : Closed (.ro sz (encL f l)) := NoId.closed fun g => by simp [encL_noid g (hf g)]
end

abbrev encP (l : List Pt) : List (List AV) := encL Pt.enc l
abbrev intE (n : Int) : List AV := [.int .i64 n]
abbrev encI (l : List Int) : List (List AV) := encL intE l
abbrev strE (s : ByteArray) : List AV := [.str s]
abbrev encS (l : List ByteArray) : List (List AV) := encL strE l
@[simp] theorem encP_noid (g : Nat → Sb) (l : List Pt) : subLL g (encL Pt.enc l) = encL Pt.enc l := encL_noid g (fun x => by simp) l
@[simp] theorem encI_noid (g : Nat → Sb) (l : List Int) : subLL g (encL intE l) = encL intE l := encL_noid g (fun x => by simp) l
@[simp] theorem encS_noid (g : Nat → Sb) (l : List ByteArray) : subLL g (encL strE l) = encL strE l := encL_noid g (fun x => by simp) l
@[simp] theorem closed_encP (l : List Pt) : Closed (.ro 4 (encL Pt.enc l)) := encL_closed (fun g x => by simp) l
@[simp] theorem closed_encI (l : List Int) : Closed (.ro 1 (encL intE l)) := encL_closed (fun g x => by simp) l
@[simp] theorem closed_encS (l : List ByteArray) : Closed (.ro 1 (encL strE l)) := encL_closed (fun g x => by simp) l
@[simp] theorem encP_noid_map (g : Nat → Sb) (l : List Pt) : (encL Pt.enc l).map (fun e => e.map (AV.sub g)) = encL Pt.enc l := by rw [← subLL_map]; simp
@[simp] theorem encI_noid_map (g : Nat → Sb) (l : List Int) : (encL intE l).map (fun e => e.map (AV.sub g)) = encL intE l := by rw [← subLL_map]; simp
@[simp] theorem encS_noid_map (g : Nat → Sb) (l : List ByteArray) : (encL strE l).map (fun e => e.map (AV.sub g)) = encL strE l := by rw [← subLL_map]; simp
@[simp] theorem take_rest {α : Type} (l : List α) (k : Nat) : (l.drop k).take (l.length - k) = l.drop k := List.take_of_length_le (by simp)

@[simp] theorem wrap64_nat (n : Nat) (h : n < 9000000000000000000) : IntKind.i64.wrap (n : Int) = n := wrap64 (by omega) (by omega)

theorem beq_yes {a b : Int} (h : a = b) : (a == b) = true := by simp [h]
theorem beq_no {a b : Int} (h : a ≠ b) : (a == b) = false := by simp [h]
theorem bne_yes {a b : Int} (h : a ≠ b) : (a != b) = true := by simp [h]
theorem bne_no {a b : Int} (h : a = b) : (a != b) = false := by simp [h]

@[simp] theorem bytes_nil (a : ByteArray) : (a.toList = []) = (a = ⟨#[]⟩) := by
  have h : (⟨#[]⟩ : ByteArray).toList = [] := by simp
  exact propext ⟨fun e => (bytes_inj a ⟨#[]⟩).mp (e.trans h.symm), fun e => by rw [e]; exact h⟩
@[simp] theorem bytes_nil' (a : ByteArray) : ([] = a.toList) = (a = ⟨#[]⟩) := by rw [← bytes_nil a]; exact propext ⟨fun h => h.symm, fun h => h.symm⟩

end Go.Vm


/- The abstract machine, part 29: what a law is given: slices of flat cells as rows of the values' own. -/
namespace Go.Vm
open Go Go.ChangeShapes Go.WideShapes Go.RowKit

section
variable {H : Type} {enc : TypeId × Value → H} {P : Program} {W : World}

theorem cells?_get {w : World} {base : Nat} {a : Addr} {n : Nat} {cs : List Value} (h : w.cells? base a n = some cs) : cs.length = n ∧ ∀ i, i < n → w.cell? (a.add i) = cs[i]? := by
  unfold World.cells? at h
  split at h
  · have h1 := mapM_some_length h
    simp at h1
    exact ⟨h1, fun i hi => mapM_some_get h i i (by simp [hi])⟩
  · cases h

theorem Addr.add_add' (a : Addr) (i j : Nat) (ha : a.spot = none) : (a.add i).add j = ⟨a.block, a.off + i + j, none⟩ := by
  obtain ⟨b, o, s⟩ := a
  simp only at ha
  subst ha
  rw [Addr.add_none, Addr.add_none]

theorem cellsIn_of_cell {w : World} {b o : Nat} {v : Value} (h : w.cell? ⟨b, o, none⟩ = some v) : o < cellsIn w b := by
  unfold World.cell? at h
  unfold cellsIn
  split at h
  · rename_i c e f hh
    simp only at hh
    rw [hh]
    simp at h
    exact (Array.getElem?_eq_some_iff.1 h).1
  · cases h

/-- A slice whose elements are flat: rows of values of one cell. -/
theorem open_rows {t e : TypeId} {v : Value} {d : DataW H} {ps : List MemPlace} (ht : P.underlying t = some (.slice e)) (hval : Cell.okWide P W .any 0 t v) (h : ∃ n, DataW.trod enc P W 0 (fun _ => true) true n t [v] = some (d, ps))
    {Q : List Value → Prop} (hQ : ∀ n r y, DataW.trod enc P W 0 (fun _ => true) true n e r = some y → Q r) (hone : ∀ r, Q r → ∀ x ∈ r, x.oneCell' = true) :
    ∃ rows : List (List Value), VR (startCx W) (.ro (P.cellsOf e) (rows.map fun r => r.map ofCell)) v ∧ rows.length ≤ maxLen ∧ ∀ r ∈ rows, r.length = P.cellsOf e ∧ Q r := by
  obtain ⟨n, h⟩ := h
  rcases DataW.trod_slice ht h with ⟨h1, _⟩ | ⟨a, len, cap, elems, rest, m, _, h1, _, hb, hl, hm, hlen, hel, _, _⟩
  · simp at h1; subst h1
    exact ⟨[], .roNil, by simp, by simp⟩
  · simp at h1; subst h1
    have hspot : a.spot = none := by
      unfold Cell.okWide at hval
      rw [ht] at hval
      simp only [Cell.ok, ht] at hval
      exact hval.2.2.2.1
    have hrow : ∀ i, i < len → ∃ r y, W.cells? 0 (a.add (i * P.cellsOf e)) (P.cellsOf e) = some r ∧ DataW.trod enc P W 0 (fun _ => true) true m e r = some y := by
      intro i hi
      have h2 := hel i hi
      have h3 : ∃ y, elems[i]? = some y := ⟨_, List.getElem?_eq_getElem (by omega)⟩
      obtain ⟨y, h3⟩ := h3
      rw [h3, Option.bind_eq_some_iff] at h2
      obtain ⟨r, h4, h5⟩ := h2
      exact ⟨r, y, h4, h5⟩
    let row : Nat → List Value := fun i => (W.cells? 0 (a.add (i * P.cellsOf e)) (P.cellsOf e)).getD []
    have hr : ∀ i, i < len → W.cells? 0 (a.add (i * P.cellsOf e)) (P.cellsOf e) = some (row i) ∧ Q (row i) := by
      intro i hi
      obtain ⟨r, y, h4, h5⟩ := hrow i hi
      have : row i = r := by simp [row, h4]
      rw [this]
      exact ⟨h4, hQ _ _ _ h5⟩
    have hb2 : a = ⟨a.block, a.off, none⟩ := by cases a; simp_all
    refine ⟨(List.range len).map row, ?_, by simp; omega, ?_⟩
    · rw [hb2]
      refine .ro (fun i j => ((row i)[j]?).getD default) (by simp) hl ?_ ?_ ?_
      · intro x hx
        simp only [List.mem_map, List.mem_range] at hx
        obtain ⟨r, ⟨i, hi, rfl⟩, rfl⟩ := hx
        simp [(cells?_get (hr i hi).1).1]
      · intro i x j y h1 h2
        rw [List.getElem?_map, List.getElem?_map] at h1
        have hi : i < len := by
          rcases Nat.lt_or_ge i len with hi | hi
          · exact hi
          · rw [List.getElem?_eq_none (by simpa using hi)] at h1; simp at h1
        rw [List.getElem?_eq_getElem (by simpa using hi)] at h1
        simp at h1; subst h1
        obtain ⟨g1, g2⟩ := cells?_get (hr i hi).1
        have hj : j < P.cellsOf e := by
          rw [← g1]
          have := (List.getElem?_eq_some_iff.1 h2).1
          simpa using this
        have hg := g2 j hj
        rw [Addr.add_add' a _ _ hspot] at hg
        have hget : (row i)[j]? = some (((row i)[j]?).getD default) := by
          rw [List.getElem?_eq_getElem (by omega)]; rfl
        rw [hget] at hg
        refine ⟨cellsIn_of_cell hg, hg, ?_⟩
        exact hone _ (hr i hi).2 _ (List.mem_of_getElem? hget)
      · intro i x j y h1 h2
        rw [List.getElem?_map, List.getElem?_map] at h1
        have hi : i < len := by
          rcases Nat.lt_or_ge i len with hi | hi
          · exact hi
          · rw [List.getElem?_eq_none (by simpa using hi)] at h1; simp at h1
        rw [List.getElem?_eq_getElem (by simpa using hi)] at h1
        simp at h1; subst h1
        simp only [List.getElem?_map, Option.map_eq_some_iff] at h2
        obtain ⟨u, h3, rfl⟩ := h2
        rw [h3]
        exact VR.ofCell _ _
    · intro r hx
      simp only [List.mem_map, List.mem_range] at hx
      obtain ⟨i, hi, rfl⟩ := hx
      exact ⟨(cells?_get (hr i hi).1).1, (hr i hi).2⟩

theorem list_choose {α β : Type} {p : α → β → Prop} : ∀ {l : List α}, (∀ x ∈ l, ∃ y, p x y) → ∃ m : List β, m.length = l.length ∧ ∀ (i : Nat) (x : α) (y : β), l[i]? = some x → m[i]? = some y → p x y
  | [], _ => ⟨[], rfl, fun i x y h => by simp at h⟩
  | x :: l, h => by
    obtain ⟨y, hy⟩ := h x (by simp)
    obtain ⟨m, h1, h2⟩ := list_choose fun z hz => h z (List.mem_cons_of_mem _ hz)
    refine ⟨y :: m, by simp [h1], fun i a b e1 e2 => ?_⟩
    cases i with
    | zero => simp at e1 e2; subst e1; subst e2; exact hy
    | succ i => simp at e1 e2; exact h2 i a b e1 e2

/-- What the words for a part are: a struct of a number, a number, a text, a byte. -/
theorem open_part {t t0 t1 t2 t3 : TypeId} {n0 n1 n2 n3 g0 g1 g2 g3 p0 p1 p2 p3 : String} {b0 b1 b2 b3 : Bool} {o0 o1 o2 o3 : Nat} (ht : P.underlying t = some (.struct #[⟨n0, t0, 0, b0, g0, p0, o0⟩, ⟨n1, t1, 1, b1, g1, p1, o1⟩, ⟨n2, t2, 2, b2, g2, p2, o2⟩, ⟨n3, t3, 3, b3, g3, p3, o3⟩]))
    (h0 : P.underlying t0 = some (.int .i64)) (h1 : P.underlying t1 = some (.int .i64)) (h2 : P.underlying t2 = some .string) (h3 : P.underlying t3 = some (.int .u8))
    (c0 : P.cellsOf t0 = 1) (c1 : P.cellsOf t1 = 1) (c2 : P.cellsOf t2 = 1) (c3 : P.cellsOf t3 = 1) (ct : P.cellsOf t = 4)
    {n : Nat} {r : List Value} {y : DataW H × List MemPlace} (h : DataW.trod enc P W 0 (fun _ => true) true n t r = some y) :
    ∃ p : Pt, r = [.int .i64 p.kind, .int .i64 p.n, .string p.s, .int .u8 p.args] ∧ 0 ≤ p.args ∧ p.args ≤ 255 ∧ p.s.size ≤ maxLen ∧
      -9223372036854775808 ≤ p.kind ∧ p.kind ≤ 9223372036854775807 ∧ -9223372036854775808 ≤ p.n ∧ p.n ≤ 9223372036854775807 := by
  obtain ⟨xs, m, _, _, hlen, hx, hf⟩ := DataW.trod_struct ht h
  rw [ct] at hlen
  obtain ⟨a, b, c, d, rfl⟩ : ∃ a b c d, r = [a, b, c, d] := by
    match r, hlen with
    | [a, b, c, d], _ => exact ⟨a, b, c, d, rfl⟩
  have hsome : ∀ i, i < 4 → ∃ z, xs[i]? = some z := fun i hi => ⟨_, List.getElem?_eq_getElem (by simp at hx; omega)⟩
  have f0 := hf 0 _ rfl
  have f1 := hf 1 _ rfl
  have f2 := hf 2 _ rfl
  have f3 := hf 3 _ rfl
  simp [c0] at f0
  simp [c1] at f1
  simp [c2] at f2
  simp [c3] at f3
  obtain ⟨z0, e0⟩ := hsome 0 (by omega)
  obtain ⟨z1, e1⟩ := hsome 1 (by omega)
  obtain ⟨z2, e2⟩ := hsome 2 (by omega)
  obtain ⟨z3, e3⟩ := hsome 3 (by omega)
  rw [e0] at f0; rw [e1] at f1; rw [e2] at f2; rw [e3] at f3
  obtain ⟨q0, k0, _, w0⟩ := DataW.trod_int h0 f0
  obtain ⟨q1, k1, _, w1⟩ := DataW.trod_int h1 f1
  obtain ⟨q2, k2, _, w2⟩ := DataW.trod_string h2 f2
  obtain ⟨q3, k3, _, w3⟩ := DataW.trod_int h3 f3
  simp at k0 k1 k2 k3
  subst k0; subst k1; subst k2; subst k3
  simp only [Lit.wf, Bool.and_eq_true, decide_eq_true_eq] at w0 w1 w3
  exact ⟨⟨q0, q1, q2, q3⟩, rfl, w3.1, w3.2, w2, w0.1, w0.2, w1.1, w1.2⟩

/-- Parts, as they may be. -/
def PtOk (p : Pt) : Prop := 0 ≤ p.args ∧ p.args ≤ 255 ∧ p.s.size ≤ maxLen ∧ -9223372036854775808 ≤ p.kind ∧ p.kind ≤ 9223372036854775807 ∧ -9223372036854775808 ≤ p.n ∧ p.n ≤ 9223372036854775807

theorem open_parts {t e : TypeId} {v : Value} {d : DataW H} {ps : List MemPlace} (ht : P.underlying t = some (.slice e)) (hc : P.cellsOf e = 4) (hval : Cell.okWide P W .any 0 t v)
    (h : ∃ n, DataW.trod enc P W 0 (fun _ => true) true n t [v] = some (d, ps))
    (hp : ∀ n r y, DataW.trod enc P W 0 (fun _ => true) true n e r = some y → ∃ p : Pt, r = [.int .i64 p.kind, .int .i64 p.n, .string p.s, .int .u8 p.args] ∧ PtOk p) :
    ∃ l : List Pt, VR (startCx W) (.ro 4 (encP l)) v ∧ l.length ≤ maxLen ∧ ∀ p ∈ l, PtOk p := by
  obtain ⟨rows, h1, h2, h3⟩ := open_rows ht hval h (Q := fun r => ∃ p : Pt, r = [.int .i64 p.kind, .int .i64 p.n, .string p.s, .int .u8 p.args] ∧ PtOk p) (fun n r y hr => hp n r y hr)
    (fun r ⟨p, e, _⟩ x hx => by subst e; simp at hx; rcases hx with rfl | rfl | rfl | rfl <;> rfl)
  obtain ⟨l, g1, g2⟩ := list_choose (p := fun (r : List Value) (p : Pt) => r = [.int .i64 p.kind, .int .i64 p.n, .string p.s, .int .u8 p.args] ∧ PtOk p) (fun r hr => (h3 r hr).2)
  have hrows : rows.map (fun r => r.map ofCell) = encP l := by
    apply List.ext_getElem?
    intro i
    simp only [List.getElem?_map, encL_get?]
    rcases Nat.lt_or_ge i rows.length with hi | hi
    · have := g2 i _ _ (List.getElem?_eq_getElem hi) (List.getElem?_eq_getElem (by omega))
      rw [List.getElem?_eq_getElem hi, List.getElem?_eq_getElem (by omega : i < l.length)]
      simp [this.1, ofCell]
    · rw [List.getElem?_eq_none hi, List.getElem?_eq_none (by omega)]
      rfl
  rw [hc, hrows] at h1
  refine ⟨l, h1, by omega, fun p hp => ?_⟩
  obtain ⟨i, hi⟩ := List.getElem?_of_mem hp
  have hi2 : i < rows.length := by have := (List.getElem?_eq_some_iff.1 hi).1; omega
  exact (g2 i _ _ (List.getElem?_eq_getElem hi2) hi).2

/-- An argument reads behind the call as it did. -/
theorem Kept.trod {W' : World} {t : TypeId} (hl : laidOutB P = true) (hr : P.readableRec t = true) (hrow : t < P.types.size) {v : Value} {d : DataW H} {ps : List MemPlace}
    (h : DataW.Trod enc P W 0 (fun _ => true) true t v d ps) (hk : Kept W W') (hlt : ∀ x ∈ ps, x.block < W.heap.size) {sp : Nat → Bool} (hsp : ∀ p ∈ ps, sp p.block = true) : DataW.Trod enc P W' 0 sp true t v d ps :=
  WideElems.Trod_stays hl hr hrow h (fun x hx => by
    have := hk.heap x.block (hlt x hx)
    cases x with
    | cell b o => exact (World.cell?_heap (a := ⟨b, o, none⟩) this)
    | map b => exact this) hsp

theorem Kept.trodAll {W' : World} (hl : laidOutB P = true) (hk : Kept W W') : ∀ {ts : List TypeId} {vs : List Value} {ds : List (DataW H)} {ps : List MemPlace}, (∀ t ∈ ts, P.readableRec t = true ∧ t < P.types.size) →
    DataW.TrodAll enc P W 0 (fun _ => true) true ts vs ds ps → (∀ x ∈ ps, x.block < W.heap.size) → ∀ {sp : Nat → Bool}, (∀ p ∈ ps, sp p.block = true) → DataW.TrodAll enc P W' 0 sp true ts vs ds ps
  | [], [], [], ps, _, h, _, _, _ => h
  | t :: ts, v :: vs, d :: ds, ps, hr, h, hlt, sp, hsp => by
    obtain ⟨p, q, h1, h2, rfl⟩ := h
    exact ⟨p, q, Kept.trod hl (hr t (by simp)).1 (hr t (by simp)).2 h1 hk (fun x hx => hlt x (by simp [hx])) (fun x hx => hsp x (by simp [hx])),
      Kept.trodAll hl hk (fun t ht => hr t (by simp [ht])) h2 (fun x hx => hlt x (by simp [hx])) (fun x hx => hsp x (by simp [hx])), rfl⟩

/-- A law's row, from its run. -/
theorem law_end {n : FuncId} {f : Func} {s : ChangeSpec} {args : Array Value} {ds : List (DataW H)} {before : List MemPlace} {avs : List AV} {tb : TypeId}
    (hlo : laidOutB P = true) (hall : f.params.toList.all (fun t => P.readableRec t && decide (t < P.types.size)) = true) (hrt : f.resultTypes = #[tb]) (htb : P.underlying tb = some .bool) (hvars : s.vars = [])
    (hfn : (s.fn H (ds ++ [])).results = [.lit (.bool true)] ∧ (s.fn H (ds ++ [])).args = ds ∧ (s.fn H (ds ++ [])).vars = [])
    (hW : DataW.Whole enc P f.params.toList s.vars false W args.toList ds [] before)
    (hrun : ACalls P n avs [] (fun r _ => r = .ret (.bool true))) (hv : VRs (startCx W) avs args.toList) :
    Calls P n args W fun e W' => ∃ v, e = .returned v ∧ s.post enc P f false true false false W args v W' := by
  have hW' := hW
  obtain ⟨p, q, hA, hV, rfl, hfz, hnd⟩ := hW
  rw [hvars] at hV
  obtain ⟨_, rfl⟩ := trodVars_none hV
  refine (calls_start hrun hv).mono fun e W' ⟨v, c, he, hk, hv⟩ => ?_
  subst he
  cases hv
  have hall' : ∀ t ∈ f.params.toList, P.readableRec t = true ∧ t < P.types.size := fun t ht => by
    have := List.all_eq_true.1 hall t ht
    simpa using this
  refine ⟨_, rfl, post_of_kept (pa := p) (pv := []) hW' (fun _ _ _ => ?_) (fun sp hsp => ?_) (fun _ _ => ?_) rfl hk (ok_one hrt rfl (okWide_bool_mk htb true))⟩
  · rw [hrt, hfn.1]
    exact trodAll_mk1 (shut_bool htb true)
  · rw [hfn.2.1]
    exact Kept.trodAll hlo hk hall' hA (fun x hx => DataW.TrodAll.lt hA x hx) (fun x hx => hsp x (by simp [hx]))
  · rw [hvars, hfn.2.2]
    rfl

/-- A struct of a number, a text, a slice and a number, as an argument. -/
theorem open_asked {t t0 t1 t2 : TypeId} {e : TypeId} {n0 n1 n2 n3 g0 g1 g2 g3 p0 p1 p2 p3 : String} {b0 b1 b2 b3 : Bool} {o0 o1 o2 o3 : Nat} (ht : P.underlying t = some (.struct #[⟨n0, t0, 0, b0, g0, p0, o0⟩, ⟨n1, t1, 1, b1, g1, p1, o1⟩, ⟨n2, t2, 2, b2, g2, p2, o2⟩, ⟨n3, t0, 3, b3, g3, p3, o3⟩]))
    (h0 : P.underlying t0 = some (.int .i64)) (h1 : P.underlying t1 = some .string) (h2 : P.underlying t2 = some (.slice e))
    (c0 : P.cellsOf t0 = 1) (c1 : P.cellsOf t1 = 1) (c2 : P.cellsOf t2 = 1) (ct : P.cellsOf t = 4) (hct : P.cellTypes P.depth t = some [t0, t1, t2, t0])
    {v : Value} {d : DataW H} {ps : List MemPlace} (hval : Value.okWide P W .any 0 t v) (h : DataW.Trod enc P W 0 (fun _ => true) true t v d ps) :
    ∃ q0 q1 c q3 d' ps', v = .agg #[.int .i64 q0, .string q1, c, .int .i64 q3] ∧ q1.size ≤ maxLen ∧ Cell.okWide P W .any 0 t2 c ∧ ∃ n, DataW.trod enc P W 0 (fun _ => true) true n t2 [c] = some (d', ps') := by
  unfold Value.okWide at hval
  rw [ht] at hval
  simp only at hval
  obtain ⟨cs, rfl, hcs, ts, hts, _, hrow⟩ := hval
  rw [hct] at hts
  cases hts
  obtain ⟨n, h⟩ := h
  obtain ⟨xs, m, _, _, hlen, hx, hf⟩ := DataW.trod_struct ht h
  rw [ct] at hcs
  obtain ⟨a, b, c, d', rfl⟩ : ∃ a b c d, cs = #[a, b, c, d] := by
    obtain ⟨l⟩ := cs
    match l, hcs with
    | [a, b, c, d], _ => exact ⟨a, b, c, d, rfl⟩
  have hsome : ∀ i, i < 4 → ∃ z, xs[i]? = some z := fun i hi => ⟨_, List.getElem?_eq_getElem (by simp at hx; omega)⟩
  have f0 := hf 0 _ rfl
  have f1 := hf 1 _ rfl
  have f2 := hf 2 _ rfl
  have f3 := hf 3 _ rfl
  simp [Value.cells, c0] at f0
  simp [Value.cells, c1] at f1
  simp [Value.cells, c2] at f2
  simp [Value.cells, c0] at f3
  obtain ⟨z0, e0⟩ := hsome 0 (by omega)
  obtain ⟨z1, e1⟩ := hsome 1 (by omega)
  obtain ⟨⟨y2, p2⟩, e2⟩ := hsome 2 (by omega)
  obtain ⟨z3, e3⟩ := hsome 3 (by omega)
  rw [e0] at f0; rw [e1] at f1; rw [e2] at f2; rw [e3] at f3
  obtain ⟨q0, k0, _, w0⟩ := DataW.trod_int h0 f0
  obtain ⟨q1, k1, _, w1⟩ := DataW.trod_string h1 f1
  obtain ⟨q3, k3, _, w3⟩ := DataW.trod_int h0 f3
  simp at k0 k1 k3
  subst k0; subst k1; subst k3
  obtain ⟨u, hu, hok⟩ := hrow 2 c rfl
  simp at hu; subst hu
  exact ⟨q0, q1, c, q3, y2, p2, rfl, w1, hok, _, f2⟩

theorem slice_cell {t e : TypeId} {v : Value} (ht : P.underlying t = some (.slice e)) (hval : Value.okWide P W .any 0 t v) : Cell.okWide P W .any 0 t v ∧ v.cells = #[v] := by
  have hc : Cell.okWide P W .any 0 t v := by
    unfold Value.okWide at hval
    rw [ht] at hval
    exact hval
  refine ⟨hc, ?_⟩
  unfold Cell.okWide at hc
  rw [ht] at hc
  cases v <;> first | rfl | (simp [Cell.ok, ht] at hc)

theorem open_parts_arg {t e : TypeId} {v : Value} {d : DataW H} {ps : List MemPlace} (ht : P.underlying t = some (.slice e)) (hc : P.cellsOf e = 4) (hval : Value.okWide P W .any 0 t v) (h : DataW.Trod enc P W 0 (fun _ => true) true t v d ps)
    (hp : ∀ n r y, DataW.trod enc P W 0 (fun _ => true) true n e r = some y → ∃ p : Pt, r = [.int .i64 p.kind, .int .i64 p.n, .string p.s, .int .u8 p.args] ∧ PtOk p) :
    ∃ l : List Pt, VR (startCx W) (.ro 4 (encP l)) v ∧ l.length ≤ maxLen ∧ ∀ p ∈ l, PtOk p := by
  obtain ⟨h1, h2⟩ := slice_cell ht hval
  obtain ⟨n, h⟩ := h
  rw [h2] at h
  exact open_parts ht hc h1 ⟨n, h⟩ hp

end
end Go.Vm


/- The abstract machine, part 31: a region that draws its order and holds one call that turns some blocks, with what comes from that call on put off. -/
namespace Go.Vm
open Go
section
variable {P : Program} {T : Tab} {F : FTab}
/-- The call, and what comes behind it ('simp' must not look into it ahead of time). -/
def LaterE (P : Program) (T : Tab) (F : FTab) (all : Array Oper) (p e : Nat) (ids : List Nat) (x0 : AV) (hb h hf1 : AH) (k : List It) (K : AExit → AAct → AH → Prop) (a1 : AAct) (g1 : AH) : Prop :=
  ECall P T F all (all.getD e default) ids x0 h hf1 (qrun P T F all (fun a h => AStk P hb (.ops all (all.toList.drop p) :: k) a (AH.back h ids hf1) K) ((all.toList.take p).drop (e + 1))) a1 g1
/-- A region's end, behind such a call. -/
def LaterB (P : Program) (all : Array Oper) (p : Nat) (ids : List Nat) (hb hf1 : AH) (k : List It) (K : AExit → AAct → AH → Prop) (a : AAct) (h : AH) : Prop :=
  AStk P hb (.ops all (all.toList.drop p) :: k) a (AH.back h ids hf1) K
theorem LaterE.mk {all : Array Oper} {p e : Nat} {ids : List Nat} {x0 : AV} {hb h hf1 : AH} {k : List It} {K : AExit → AAct → AH → Prop} {a1 : AAct} {g1 : AH} {gf : FuncId} {args : List AV}
    (h1 : OnA all (all.getD e default) a1 true) (h2 : callOf F (ev a1.tmps) (all.getD e default) = some (gf, args))
    (h3 : ACalls P gf (args.map (AV.sub (inn ids))) (ids.map fun i => (h.getD i .dead).sub (inn ids)) (fun r h1 => r = .ret x0 ∧ h1 = hf1)) (h4 : ids.length ≤ hf1.length)
    (h5 : qrun P T F all (LaterB P all p ids hb hf1 k K) ((all.toList.take p).drop (e + 1)) (a1.put (all.getD e default).dst x0) g1) :
    LaterE P T F all p e ids x0 hb h hf1 k K a1 g1 := by
  refine ⟨h1, ?_⟩
  rw [h2]
  exact ⟨h3, h4, h5⟩
theorem stk_drawL (hm : P.follows .mixedOrders = true) (hT : T.OK P) (hF : F.OK P) {i : Nat} {all : Array Oper} (p e : Nat) (hL : lexOK all p = true) {k : List It} {a : AAct} {hb h : AH} {K : AExit → AAct → AH → Prop}
    (ids : List Nat) (x0 : AV) (hf1 : AH) (hep : e < p) (hnd : ids.Nodup) (hid : ∀ i ∈ ids, i < h.length) (hx0 : NoId x0)
    (hq : qrun P T F all (LaterE P T F all p e ids x0 hb h hf1 k K) ((all.toList.take p).take e) a (kills h ids)) :
    AStk P hb (.code (.region i all true) :: k) a h K :=
  stk_drawE hm hT hF p e hL ids x0 hf1 hep hnd hid hx0 hq
end
end Go.Vm


/- The abstract machine, part 32: the machine's steps, for 'simp', in all texts behind this one. -/
namespace Go.Vm
open Go
attribute [simp ↓] run.eq_def aop.eq_def After.eq_def Resume.eq_def EndsV.eq_def aResults.eq_def aBuiltin.eq_def aLen.eq_def aLoad.eq_def aPart.eq_def aStore.eq_def aFieldAddr.eq_def aField.eq_def aOff.eq_def aAlloc.eq_def aBox.eq_def aIndex.eq_def aIndexAddr.eq_def aBuild.eq_def aBuildSlice.eq_def aAppend.eq_def aSlice.eq_def aBound.eq_def aUn.eq_def aConvert.eq_def aExtract.eq_def aMakeIface.eq_def aAssert.eq_def aMaxOp.eq_def aMax.eq_def aMakeMap.eq_def aLookup.eq_def aMapUpd.eq_def findA_P aBin.eq_def aIntOp.eq_def aStrOp.eq_def aNilEq.eq_def qrun.eq_def qop.eq_def QAfter.eq_def callOf.eq_def Tr.get.eq_def Tr.set.eq_def pickT.eq_def ofL.eq_def mkT.eq_def toL_set toL_get aAppendAcc.eq_def aLenAcc.eq_def
attribute [simp] findP.eq_1 findP.eq_2 yieldA quietOp newOp toL_map Tr.map
@[simp] theorem wk_refl (x : AV) : AV.Wk x x := AV.Wk.refl x
@[simp] theorem wkl_refl (x : List AV) : WkL x x := WkL.refl x
@[simp] theorem wkll_refl (x : List (List AV)) : WkLL x x := WkLL.refl x
@[simp] theorem wk_nil (sz : Nat) : AV.Wk .nils (.ro sz []) := AV.Wk.nil sz
@[simp] theorem wk_agg {xs ys : List AV} (h : WkL xs ys) : AV.Wk (.agg xs) (.agg ys) := AV.Wk.agg h
@[simp] theorem wk_tup {xs ys : List AV} (h : WkL xs ys) : AV.Wk (.tup xs) (.tup ys) := AV.Wk.tup h
@[simp] theorem wk_ro {sz : Nat} {es fs : List (List AV)} (h : WkLL es fs) : AV.Wk (.ro sz es) (.ro sz fs) := AV.Wk.ro h
@[simp] theorem wkl_cons {x y : AV} {xs ys : List AV} (h : AV.Wk x y) (hs : WkL xs ys) : WkL (x :: xs) (y :: ys) := WkL.cons h hs
@[simp] theorem wkll_cons {x y : List AV} {xs ys : List (List AV)} (h : WkL x y) (hs : WkLL xs ys) : WkLL (x :: xs) (y :: ys) := WkLL.cons h hs
end Go.Vm
