/- The abstract machine, part 15: of an operation that only reads: what it yields, apart from what comes behind it. -/
import Derived.Test.YteebkkipeiggcaaVm14
set_option linter.unusedVariables false
set_option linter.unusedSimpArgs false
namespace Go.Vm
open Go

section
variable {P : Program} {T : Tab} {F : FTab} {h : AH} {K : AV → AH → Prop}

theorem aPart_pick {ti : TyI} {cs : List AV} {off : Nat} {K : AV → Prop} (hk : aPart ti cs off K) : ∃ v, K v ∧ ∀ K' : AV → Prop, K' v → aPart ti cs off K' := by
  unfold aPart at hk ⊢
  (repeat' split at hk) <;> first
    | exact hk.elim
    | exact ⟨_, hk, fun K' h' => by simp_all⟩

theorem aLoad_pick {t : TypeId} {x : AV} (hk : aLoad T t x h K) : ∃ v, K v h ∧ ∀ K' : AV → AH → Prop, K' v h → aLoad T t x h K' := by
  unfold aLoad at hk ⊢
  (repeat' split at hk) <;> first
    | exact hk.elim
    | (obtain ⟨v, h1, h2⟩ := aPart_pick hk
       exact ⟨v, h1, fun K' h' => by have := h2 (fun y => K' y h) h'; simp_all⟩)

theorem aOff_pick {x : AV} {n : Nat} (hk : aOff x n h K) : ∃ v, K v h ∧ ∀ K' : AV → AH → Prop, K' v h → aOff x n h K' := by
  unfold aOff at hk ⊢
  (repeat' split at hk) <;> first
    | exact hk.elim
    | exact ⟨_, hk, fun K' h' => h'⟩

theorem aFieldAddr_pick {t : TypeId} {x : AV} {f : Nat} (hk : aFieldAddr T t x f h K) : ∃ v, K v h ∧ ∀ K' : AV → AH → Prop, K' v h → aFieldAddr T t x f h K' := by
  unfold aFieldAddr at hk ⊢
  (repeat' split at hk) <;> first
    | exact hk.elim
    | (obtain ⟨v, h1, h2⟩ := aOff_pick hk
       exact ⟨v, h1, fun K' h' => by have := h2 _ h'; simp_all⟩)

theorem aField_pick {t : TypeId} {x : AV} {f : Nat} (hk : aField T t x f h K) : ∃ v, K v h ∧ ∀ K' : AV → AH → Prop, K' v h → aField T t x f h K' := by
  unfold aField at hk ⊢
  (repeat' split at hk) <;> first
    | exact hk.elim
    | (obtain ⟨v, h1, h2⟩ := aPart_pick hk
       exact ⟨v, h1, fun K' h' => by have := h2 (fun y => K' y h) h'; simp_all⟩)

theorem aIndexAddr_pick {t : TypeId} {x i : AV} (hk : aIndexAddr T t x i h K) : ∃ v, K v h ∧ ∀ K' : AV → AH → Prop, K' v h → aIndexAddr T t x i h K' := by
  unfold aIndexAddr at hk ⊢
  (repeat' split at hk) <;> first
    | exact hk.elim
    | exact ⟨_, hk, fun K' h' => by simp_all⟩
    | (obtain ⟨v, h1, h2⟩ := aOff_pick hk
       exact ⟨v, h1, fun K' h' => by have := h2 _ h'; simp_all⟩)

theorem aIndex_pick {t : TypeId} {x i : AV} (hk : aIndex T t x i h K) : ∃ v, K v h ∧ ∀ K' : AV → AH → Prop, K' v h → aIndex T t x i h K' := by
  unfold aIndex at hk ⊢
  (repeat' split at hk) <;> first
    | exact hk.elim
    | exact ⟨_, hk, fun K' h' => by simp_all⟩
    | (obtain ⟨v, h1, h2⟩ := aPart_pick hk
       exact ⟨v, h1, fun K' h' => by have := h2 (fun y => K' y h) h'; simp_all⟩)

theorem aBound_pick {x : Option AV} {d y : Nat} {K : Nat → Prop} (hk : aBound x d y K) : ∃ n, K n ∧ ∀ K' : Nat → Prop, K' n → aBound x d y K' := by
  unfold aBound at hk ⊢
  (repeat' split at hk) <;> first
    | exact hk.elim
    | exact ⟨_, hk, fun K' h' => by simp_all⟩

theorem aBound2_pick {lo hi : Option AV} {d y : Nat} {Q : Nat → Nat → Prop} (hk : aBound hi d y fun b => aBound lo 0 b fun a => Q a b) :
    ∃ a b, Q a b ∧ ∀ Q' : Nat → Nat → Prop, Q' a b → aBound hi d y fun b => aBound lo 0 b fun a => Q' a b := by
  obtain ⟨b, h1, h2⟩ := aBound_pick hk
  obtain ⟨a, h3, h4⟩ := aBound_pick h1
  exact ⟨a, b, h3, fun Q' h' => h2 (fun b => aBound lo 0 b fun a => Q' a b) (h4 (fun a => Q' a b) h')⟩

theorem aSlice_pick {t : TypeId} {x : AV} {lo hi : Option AV} (hk : aSlice T t x lo hi h K) : ∃ v, K v h ∧ ∀ K' : AV → AH → Prop, K' v h → aSlice T t x lo hi h K' := by
  unfold aSlice at hk ⊢
  (repeat' split at hk) <;> first
    | exact hk.elim
    | (obtain ⟨a, b, h1, h2⟩ := aBound2_pick hk
       first
         | (refine ⟨_, h1, fun K' h' => ?_⟩
            first
              | exact h2 _ h'
              | (rw [if_pos (by assumption)]; exact h2 _ h'))
         | (split at h1
            · rename_i hlt
              refine ⟨_, h1, fun K' h' => ?_⟩
              first
                | exact h2 _ (by rw [if_pos hlt]; exact h')
                | (rw [if_pos (by assumption)]
                   exact h2 _ (by rw [if_pos hlt]; exact h'))
            · exact h1.elim))

theorem aBuild_pick {t : TypeId} {ps : List (Nat × AV)} (hk : aBuild T t ps h K) : ∃ v, K v h ∧ ∀ K' : AV → AH → Prop, K' v h → aBuild T t ps h K' := by
  unfold aBuild at hk ⊢
  (repeat' split at hk) <;> first
    | exact hk.elim
    | exact ⟨_, hk, fun K' h' => by simp_all⟩

theorem aIntOp_pick {op : BinOp} {k : IntKind} {a b : Int} {K : AV → Prop} (hk : aIntOp op k a b K) : ∃ v, K v ∧ ∀ K' : AV → Prop, K' v → aIntOp op k a b K' := by
  unfold aIntOp at hk ⊢
  (repeat' split at hk) <;> first
    | exact hk.elim
    | exact ⟨_, hk, fun K' h' => by simp_all⟩

theorem aStrOp_pick {op : BinOp} {a b : ByteArray} {K : AV → Prop} (hk : aStrOp op a b K) : ∃ v, K v ∧ ∀ K' : AV → Prop, K' v → aStrOp op a b K' := by
  unfold aStrOp at hk ⊢
  (repeat' split at hk) <;> first
    | exact hk.elim
    | exact ⟨_, hk.2, fun K' h' => ⟨hk.1, h'⟩⟩
    | exact ⟨_, hk, fun K' h' => h'⟩

theorem aNilEq_pick {t : TypeId} {x y : AV} {K : Bool → Prop} (hk : aNilEq T t x y K) : ∃ v, K v ∧ ∀ K' : Bool → Prop, K' v → aNilEq T t x y K' := by
  unfold aNilEq at hk ⊢
  (repeat' split at hk) <;> first
    | exact hk.elim
    | exact ⟨_, hk, fun K' h' => by simp_all⟩

theorem aBin_pick {op : BinOp} {t : TypeId} {k : Bool} {x y : AV} (hk : aBin T op t k x y h K) : ∃ v, K v h ∧ ∀ K' : AV → AH → Prop, K' v h → aBin T op t k x y h K' := by
  unfold aBin at hk ⊢
  split at hk
  · split at hk
    · split at hk
      · exact hk.elim
      · rename_i hb
        exact ⟨_, hk, fun K' h' => by simp only [if_neg hb]; exact h'⟩
    · split at hk
      · exact hk.elim
      · rename_i hb
        exact ⟨_, hk, fun K' h' => by simp only [if_neg hb]; exact h'⟩
    · split at hk
      · rename_i hkk
        obtain ⟨v, h1, h2⟩ := aIntOp_pick hk
        exact ⟨v, h1, fun K' h' => by simp only [if_pos hkk]; exact h2 (fun z => K' z h) h'⟩
      · exact hk.elim
  · obtain ⟨v, h1, h2⟩ := aStrOp_pick hk
    exact ⟨v, h1, fun K' h' => h2 (fun z => K' z h) h'⟩
  · split at hk
    · split at hk
      · rename_i hkk
        obtain ⟨v, h1, h2⟩ := aNilEq_pick hk
        exact ⟨_, h1, fun K' h' => by simp only [if_pos hkk]; exact h2 (fun b => K' (.bool b) h) h'⟩
      · rename_i hkk
        split at hk
        · obtain ⟨v, h1, h2⟩ := aNilEq_pick hk
          exact ⟨_, h1, fun K' h' => by simp only [if_neg hkk]; exact h2 (fun b => K' (.bool b) h) h'⟩
        · exact hk.elim
    · split at hk
      · rename_i hkk
        obtain ⟨v, h1, h2⟩ := aNilEq_pick hk
        exact ⟨_, h1, fun K' h' => by simp only [if_pos hkk]; exact h2 (fun b => K' (.bool (!b)) h) h'⟩
      · rename_i hkk
        split at hk
        · obtain ⟨v, h1, h2⟩ := aNilEq_pick hk
          exact ⟨_, h1, fun K' h' => by simp only [if_neg hkk]; exact h2 (fun b => K' (.bool (!b)) h) h'⟩
        · exact hk.elim
    · exact hk.elim

theorem aUn_pick {op : UnOp} {x : AV} (hk : aUn op x h K) : ∃ v, K v h ∧ ∀ K' : AV → AH → Prop, K' v h → aUn op x h K' := by
  unfold aUn at hk ⊢
  split at hk
  · exact ⟨_, hk, fun K' h' => h'⟩
  · exact ⟨_, hk, fun K' h' => h'⟩
  · exact ⟨_, hk, fun K' h' => h'⟩
  · exact hk.elim

theorem aConvert_pick {s d : TypeId} {x : AV} (hk : aConvert T s d x h K) : ∃ v, K v h ∧ ∀ K' : AV → AH → Prop, K' v h → aConvert T s d x h K' := by
  unfold aConvert at hk ⊢
  (repeat' split at hk) <;> first
    | exact hk.elim
    | exact ⟨_, hk, fun K' h' => by simp_all⟩

theorem aExtract_pick {x : AV} {i : Nat} (hk : aExtract x i h K) : ∃ v, K v h ∧ ∀ K' : AV → AH → Prop, K' v h → aExtract x i h K' := by
  unfold aExtract at hk ⊢
  (repeat' split at hk) <;> first
    | exact hk.elim
    | exact ⟨_, hk, fun K' h' => by simp_all⟩

theorem aMakeIface_pick {t : TypeId} {x : AV} (hk : aMakeIface T t x h K) : ∃ v, K v h ∧ ∀ K' : AV → AH → Prop, K' v h → aMakeIface T t x h K' := by
  unfold aMakeIface at hk ⊢
  (repeat' split at hk) <;> first
    | exact hk.elim
    | exact ⟨_, hk, fun K' h' => by simp_all⟩

theorem aAssert_pick {x : AV} {t : TypeId} {ok : Bool} (hk : aAssert T x t ok h K) : ∃ v, K v h ∧ ∀ K' : AV → AH → Prop, K' v h → aAssert T x t ok h K' := by
  unfold aAssert at hk ⊢
  (repeat' split at hk) <;> first
    | exact hk.elim
    | exact ⟨_, hk, fun K' h' => by simp_all⟩

theorem aLen_pick {ts : List TypeId} {x : AV} (hk : aLen T ts x h K) : ∃ v, K v h ∧ ∀ K' : AV → AH → Prop, K' v h → aLen T ts x h K' := by
  unfold aLen at hk ⊢
  (repeat' split at hk) <;> first
    | exact hk.elim
    | exact ⟨_, hk, fun K' h' => by simp_all⟩

theorem aMax_pick {mx : Bool} {k : IntKind} {K : Int → Prop} : ∀ {xs : List AV} {a : Int}, aMax mx k a K xs → ∃ n, K n ∧ ∀ K' : Int → Prop, K' n → aMax mx k a K' xs := by
  intro xs
  induction xs with
  | nil => intro a hk; exact ⟨a, hk, fun K' h' => h'⟩
  | cons x xs ih =>
    intro a hk
    cases x <;> simp only [aMax] at hk ⊢ <;> try exact hk.elim
    split at hk
    · rename_i hkk
      obtain ⟨n, h1, h2⟩ := ih hk
      exact ⟨n, h1, fun K' h' => by rw [if_pos hkk]; exact h2 K' h'⟩
    · exact hk.elim

theorem aMaxOp_pick {mx : Bool} {xs : List AV} (hk : aMaxOp mx xs h K) : ∃ v, K v h ∧ ∀ K' : AV → AH → Prop, K' v h → aMaxOp mx xs h K' := by
  unfold aMaxOp at hk ⊢
  split at hk
  · obtain ⟨n, h1, h2⟩ := aMax_pick hk
    exact ⟨_, h1, fun K' h' => h2 _ h'⟩
  · exact hk.elim

theorem findA_pick {d : TypeDesc} {k : AV} {Ks : Nat → AV → Prop} {Kn : Prop} : ∀ {es : List (AV × AV × Nat)} {i : Nat}, findA d k Ks Kn es i →
    (∃ j y, Ks j y ∧ ∀ Ks' Kn', Ks' j y → findA d k Ks' Kn' es i) ∨ (Kn ∧ ∀ (Ks' : Nat → AV → Prop) (Kn' : Prop), Kn' → findA d k Ks' Kn' es i) := by
  intro es
  induction es with
  | nil => intro i hk; exact .inr ⟨hk, fun _ _ h' => h'⟩
  | cons a es ih =>
    intro i hk
    obtain ⟨k', y, n⟩ := a
    simp only [findA] at hk ⊢
    split at hk
    · split at hk
      · rename_i hb
        exact .inl ⟨i, y, hk, fun Ks' Kn' h' => by rw [if_pos hb]; exact h'⟩
      · rename_i hb
        rcases ih hk with ⟨j, y', h1, h2⟩ | ⟨h1, h2⟩
        · exact .inl ⟨j, y', h1, fun Ks' Kn' h' => by rw [if_neg hb]; exact h2 _ _ h'⟩
        · exact .inr ⟨h1, fun Ks' Kn' h' => by rw [if_neg hb]; exact h2 _ _ h'⟩
    · exact hk.elim

theorem aLookup_pick {t : TypeId} {m k : AV} {ok : Bool} (hk : aLookup T t m k ok h K) : ∃ v, K v h ∧ ∀ K' : AV → AH → Prop, K' v h → aLookup T t m k ok h K' := by
  unfold aLookup at hk ⊢
  (repeat' split at hk) <;> first
    | exact hk.elim
    | exact ⟨_, hk, fun K' h' => by simp_all⟩
    | (rcases findA_pick hk with ⟨j, y, h1, h2⟩ | ⟨h1, h2⟩
       · exact ⟨_, h1, fun K' h' => by
           have := h2 (fun _ v => K' (if ok then .tup [v, .bool true] else v) h)
           simp_all⟩
       · exact ⟨_, h1, fun K' h' => by
           have := h2 (fun _ v => K' (if ok then .tup [v, .bool true] else v) h) _ h'
           simp_all⟩)

end
end Go.Vm
