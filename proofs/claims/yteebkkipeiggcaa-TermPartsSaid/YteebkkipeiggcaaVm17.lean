/- The abstract machine, part 17: operations that make one block; an operation hangs on its operands alone. -/
import Derived.Test.YteebkkipeiggcaaVm16
set_option linter.unusedVariables false
set_option linter.unusedSimpArgs false
namespace Go.Vm
open Go

/-- How a new block is named. -/
inductive NK where
  | ptr
  | sl (len : Nat)
  | map

def NK.val : NK → Nat → AV
  | .ptr, k => .ptr k 0
  | .sl len, k => .sl k 0 len
  | .map, k => .map k

theorem NK.inj {a b : NK} {k : Nat} (h : a.val k = b.val k) : a = b := by
  cases a <;> cases b <;> simp_all [NK.val]

def newOp : Op → Bool
  | .alloc _ | .box .. | .buildSlice .. => true
  | .makeMap _ none => true
  | _ => false

/-- The model makes one block, and hands back its name. -/
def NewR (P : Program) (s : Sem Next) (c : Cx) (b : AB) (nk : NK) : Prop :=
  ∃ (o : Obj) (v : Value) (l : Loc), l.b = c.w.heap.size ∧ s.run P c.w = .ok (.value v) (c.w.alloc o) ∧
    ∀ (c' : Cx) (k : Nat), Le c c' → c'.w = c.w.alloc o → c'.L l.b = 0 → c'.φ k = some l → BR c' l b ∧ VR c' (nk.val k) v

section
variable {P : Program} {T : Tab} {F : FTab} {h : AH}

theorem newR_var {c : Cx} {cs : List AV} {vs : Array Value} (e : TypeId) (hv : VRs c cs vs.toList) (h1 : Ones vs.toList) : NewR P (do pure (.value (.pointer (some (← newRow e vs))))) c (.var cs) .ptr := by
  refine ⟨.cells vs e, .pointer (some ⟨c.w.heap.size, 0, none⟩), ⟨c.w.heap.size, 0, 0, 0⟩, rfl, rfl, fun c' k hle hw hL hφ => ⟨.var (T := e) (vs := vs) ?_ rfl hL (hv.mono hle) h1, VR.ptr (id := k) (off := 0) hφ⟩⟩
  rw [hw]
  show (c.w.heap.push _)[c.w.heap.size]? = _
  simp

theorem NewR.congr {s s' : Sem Next} {c : Cx} {b : AB} {nk : NK} (he : s.run P c.w = s'.run P c.w) (hh : NewR P s' c b nk) : NewR P s c b nk := by
  obtain ⟨o, v, l, a, b', d⟩ := hh
  exact ⟨o, v, l, a, he.trans b', d⟩

theorem aop_new (hT : T.OK P) {ρa : Operand → AV} {o : Oper} {K : ANext → AH → Prop} (hn : newOp o.op = true) (hk : aop T F ρa h o K) :
    ∃ (b : AB) (nk : NK), b.live = true ∧ K (.val (nk.val h.length)) (h ++ [b]) ∧ (∀ (h' : AH) (K' : ANext → AH → Prop), K' (.val (nk.val h'.length)) (h' ++ [b]) → aop T F ρa h' o K') ∧
      ∀ (c : Cx) (ρ : Operand → Value), (∀ x, VR c (ρa x) (ρ x)) → NewR P (execOp ρ o) c b nk := by
  obtain ⟨dst, op, ty, pos, after, guard⟩ := o
  cases op <;> simp only [newOp, Bool.false_eq_true] at hn <;> simp only [aop] at hk ⊢ <;> simp only [execOp]
  case alloc t =>
    unfold aAlloc at hk ⊢
    split at hk
    · rename_i ti ht
      refine ⟨_, .ptr, rfl, hk, fun h' K' hk' => hk', fun c ρ hρ => ?_⟩
      refine NewR.congr ?_ (newR_var t (VRs.map_ofCell c ti.zero.cells.toList) (hT t ti ht).zone)
      simp [Instr.alloc, (hT t ti ht).run_zeroValue c.w, newVar]
    · exact hk.elim
  case box t x =>
    unfold aBox at hk ⊢
    split at hk
    · rename_i cs hc
      refine ⟨_, .ptr, rfl, hk, fun h' K' hk' => hk', fun c ρ hρ => ?_⟩
      exact newR_var t ((hρ x).cells hc).1 ((hρ x).cells hc).2
    · exact hk.elim
  case buildSlice t len ps =>
    unfold aBuildSlice at hk ⊢
    split at hk
    · rename_i e s b z ht
      have hok := hT t _ ht
      split at hk
      · rename_i ei he
        have heo := hT e ei he
        split at hk
        · rename_i hle
          split at hk
          · rename_i es hes
            refine ⟨_, .sl len, rfl, hk, fun h' K' hk' => by rw [if_pos hle]; exact hk', fun c ρ hρ => ?_⟩
            have hp : PartsR c (ps.toList.map fun p => (p.1, ρa p.2)) (ps.map fun p => (p.1, ρ p.2)).toList := by
              rw [Array.toList_map]; exact PartsR.map hρ ps.toList
            obtain ⟨ws, g1, g2, g3, g4⟩ := fillE_sound hp (RowR.replicate heo.zsz heo.zone hle.1 len) hes
            have hlen : es.length = len := by rw [g3]; simp
            refine ⟨.cells ws e, .slice (some ⟨c.w.heap.size, 0, none⟩) len len, ⟨c.w.heap.size, 0, ws.size, ei.size⟩, rfl, ?_, fun c' k hl hw hL hφ => ⟨?_, ?_⟩⟩
            · suffices hr : (Instr.buildSlice t len (ps.map fun p => (p.1, ρ p.2))).run P c.w = .ok (.slice (some ⟨c.w.heap.size, 0, none⟩) len len) (c.w.alloc (.cells ws e)) by
                simp [hr]
              by_cases hz : len * ei.size = 0
              · have hl0 : len = 0 := by
                  rcases Nat.eq_zero_or_pos len with h' | h'
                  · exact h'
                  · have := Nat.mul_pos h' hle.1; omega
                subst hl0
                have hE : ((Array.range (0 * ei.size)).map (ei.zero.cells[· % ei.zero.cells.size]!)) = #[] := by simp
                rw [hE] at g1
                simp only [Instr.buildSlice, Sem.run_bind, hok.run_underlying c.w, Result.andThen_ok, heo.run_sizeOf c.w, Nat.zero_mul, if_true, Sem.run_pure, Sem.run_ite]
                rw [if_neg (by decide)]
                have hE2 : ((Array.range 0).map ((#[] : Array Value)[· % (#[] : Array Value).size]!)) = #[] := by simp
                rw [hE2, g1]
                rfl
              · have hgt : ¬ (len * ei.size > 2 ^ 24) := by omega
                simp only [Instr.buildSlice, Sem.run_bind, hok.run_underlying c.w, Result.andThen_ok, heo.run_sizeOf c.w, hgt, if_false, hz, heo.run_zeroValue c.w, Sem.run_pure, Sem.run_ite]
                rw [g1]
                rfl
            · refine .arr (vs := ws) (T := e) ?_ rfl rfl hle.1 g4.1 g4.2.1 (fun i e j x v q1 q2 q3 => (g4.2.2.1 i e j x v q1 q2 q3).mono hl) (by rw [hL]; omega) (fun _ => hL) g4.2.2.2
              rw [hw]
              show (c.w.heap.push _)[c.w.heap.size]? = _
              simp
            · have := VR.sl (c := c') (id := k) (off := 0) (len := len) (cap := len) hφ (Nat.le_refl _) hle.1 (by have := g4.1; rw [hlen] at this; simp only [Nat.zero_mul, Nat.zero_add] at this ⊢; omega)
              simpa [NK.val] using this
          · exact hk.elim
        · exact hk.elim
      · exact hk.elim
    · exact hk.elim
  case makeMap t r =>
    cases r with
    | some x => simp [newOp] at hn
    | none =>
      refine ⟨_, .map, rfl, hk, fun h' K' hk' => hk', fun c ρ hρ => ?_⟩
      refine ⟨.map #[] 0, .map (some c.w.heap.size), ⟨c.w.heap.size, 0, 0, 0⟩, rfl, rfl, fun c' k hle hw hL hφ => ⟨.map (ents := #[]) ?_ hL rfl (fun i k v n e a => by simp at a), VR.map (l := ⟨c.w.heap.size, 0, 0, 0⟩) hφ⟩⟩
      rw [hw]
      show (c.w.heap.push _)[c.w.heap.size]? = _
      simp

/-- An operation hangs on its operands alone. -/
theorem aop_congr {ρ ρ' : Operand → AV} {o : Oper} {K : ANext → AH → Prop} (he : ∀ x ∈ o.op.operands, ρ x = ρ' x) : aop T F ρ h o K = aop T F ρ' h o K := by
  obtain ⟨dst, op, ty, pos, after, guard⟩ := o
  have pairs : ∀ ps : Array (Nat × Operand), (∀ p ∈ ps.toList, ρ p.2 = ρ' p.2) → (ps.toList.map fun p => (p.1, ρ p.2)) = (ps.toList.map fun p => (p.1, ρ' p.2)) := fun ps hp =>
    List.map_congr_left fun p hm => by rw [hp p hm]
  have arr : ∀ xs : Array Operand, (∀ x ∈ xs.toList, ρ x = ρ' x) → xs.toList.map ρ = xs.toList.map ρ' := fun xs hx => List.map_congr_left hx
  cases op <;> simp only [aop]
  all_goals simp only [Op.operands] at he
  case move x => rw [he x (by simp)]
  case assign x => rw [he x (by simp)]
  case pick x a b => rw [he x (by simp), he a (by simp), he b (by simp)]
  case box t x => rw [he x (by simp)]
  case build t ps => rw [pairs ps fun p hp => he _ (by simp; exact ⟨p.1, by simpa using hp⟩)]
  case buildSlice t n ps => rw [pairs ps fun p hp => he _ (by simp; exact ⟨p.1, by simpa using hp⟩)]
  case load t x => rw [he x (by simp)]
  case store t x y => rw [he x (by simp), he y (by simp)]
  case nilCheck x => rw [he x (by simp)]
  case binOp op t x y t' => rw [he x (by simp), he y (by simp)]
  case unOp op t x => rw [he x (by simp)]
  case convert s d x => rw [he x (by simp)]
  case makeInterface t x => rw [he x (by simp)]
  case makeFunc f a b => rw [arr a fun x hx => he x (by simp; exact .inl (by simpa using hx)), arr b fun x hx => he x (by simp; exact .inr (by simpa using hx))]
  case makeMap t r =>
    cases r with
    | none => rfl
    | some x => rw [Option.map_some, Option.map_some, he x (by simp)]
  case slice t x lo hi mx =>
    cases mx with
    | some m => rfl
    | none =>
      have e1 : lo.map ρ = lo.map ρ' := by cases lo with | none => rfl | some y => rw [Option.map_some, Option.map_some, he y (by simp)]
      have e2 : hi.map ρ = hi.map ρ' := by cases hi with | none => rfl | some y => rw [Option.map_some, Option.map_some, he y (by simp)]
      simp only [e1, e2, he x (by simp)]
  case fieldAddr t x f => rw [he x (by simp)]
  case field t x f => rw [he x (by simp)]
  case indexAddr t x i => rw [he x (by simp), he i (by simp)]
  case index t x i => rw [he x (by simp), he i (by simp)]
  case lookup t x i ok => rw [he x (by simp), he i (by simp)]
  case mapUpdate t m k v => rw [he m (by simp), he k (by simp), he v (by simp)]
  case insert t m k v => rw [he m (by simp), he k (by simp), he v (by simp)]
  case typeAssert x xt t ok => rw [he x (by simp)]
  case extract x i => rw [he x (by simp)]
  case panic x => rw [he x (by simp)]
  case call cl =>
    obtain ⟨callee, xs, ts⟩ := cl
    cases callee with
    | builtin b => simp only [aop]; rw [arr xs fun x hx => he x (by simp [Call.operands]; simpa using hx)]
    | value f => simp only [aop]; rw [arr xs fun x hx => he x (by simp [Call.operands]; exact .inr (by simpa using hx)), he f (by simp [Call.operands])]
    | invoke r n => rfl
  case defer cl =>
    obtain ⟨callee, xs, ts⟩ := cl
    cases callee with
    | builtin b => rfl
    | value f => simp only [aop]; rw [arr xs fun x hx => he x (by simp [Call.operands]; exact .inr (by simpa using hx)), he f (by simp [Call.operands])]
    | invoke r n => rfl

end
end Go.Vm
