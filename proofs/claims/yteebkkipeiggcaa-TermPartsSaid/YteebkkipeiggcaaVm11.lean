/- The abstract machine, part 11: control. 'run' goes through a function's code; where a call or a loop stands it asks for what is known of that. -/
import Derived.Test.YteebkkipeiggcaaVm10
set_option linter.unusedVariables false
set_option linter.unusedSimpArgs false
namespace Go.Vm
open Go

structure ADef where
  f : Fn
  captured : List AV
  args : List AV

structure AAct where
  tmps : List AV
  defers : List ADef

inductive AExit where
  | norm
  | ret
  | pan (v : AV)

inductive ARes where
  | ret (v : AV)
  | pan (v : AV)

inductive It where
  | code (c : Code)
  | ops (all : Array Oper) (l : List Oper)
  | blk (id : Nat)
  | loop (c : Code)

def DefR (c : Cx) (d : ADef) (D : Deferred) : Prop := ∃ vs : Array Value, D.target = .fn d.f vs ∧ VRs c d.captured vs.toList ∧ VRs c d.args D.args.toList

inductive DefsR (c : Cx) : List ADef → List Deferred → Prop
  | nil : DefsR c [] []
  | cons {d D ds Ds} (h : DefR c d D) (hs : DefsR c ds Ds) : DefsR c (d :: ds) (D :: Ds)

structure ActR (c : Cx) (a : AAct) (act : Act) : Prop where
  tmps : VRs c a.tmps act.tmps.toList
  defers : DefsR c a.defers act.defers

inductive ExR (c : Cx) : AExit → Exit → Prop
  | norm : ExR c .norm .normal
  | ret : ExR c .ret .ret
  | pan {x v} (h : VR c x v) : ExR c (.pan x) (.panic [{ v, recovered := false }])

inductive ResR (c : Cx) : ARes → Ending → Prop
  | ret {x v} (h : VR c x v) : ResR c (.ret x) (.returned v)
  | pan {x v} (h : VR c x v) : ResR c (.pan x) (.panicked [{ v, recovered := false }])

theorem DefR.mono {c c' : Cx} (hle : Le c c') {d : ADef} {D : Deferred} (h : DefR c d D) : DefR c' d D := by
  obtain ⟨vs, h1, h2, h3⟩ := h
  exact ⟨vs, h1, h2.mono hle, h3.mono hle⟩

theorem DefsR.mono {c c' : Cx} (hle : Le c c') {ds : List ADef} {Ds : List Deferred} (h : DefsR c ds Ds) : DefsR c' ds Ds := by
  induction h with
  | nil => exact .nil
  | cons h _ ih => exact .cons (h.mono hle) ih

theorem ActR.mono {c c' : Cx} (hle : Le c c') {a : AAct} {act : Act} (h : ActR c a act) : ActR c' a act := ⟨h.tmps.mono hle, h.defers.mono hle⟩

def AAct.put (a : AAct) (dst : Option Tmp) (v : AV) : AAct :=
  match dst with
  | some d => { a with tmps := a.tmps.set d v }
  | none => a

theorem ActR.put {c : Cx} {a : AAct} {act : Act} (h : ActR c a act) (dst : Option Tmp) {x : AV} {v : Value} (hx : VR c x v) : ActR c (a.put dst x) (act.put dst v) := by
  cases dst with
  | none => exact h
  | some d => exact ⟨by show VRs c _ (act.tmps.setIfInBounds d v).toList; rw [Array.toList_setIfInBounds]; exact h.tmps.set d hx, h.defers⟩

/-! ### Pieces of code, one behind the other -/
/-- A region's operations from one on. -/
def opsL (P : Program) (all : Array Oper) (Q : Exit → Act → World → Prop) : List Oper → Act → World → Prop
  | [], a, w => Q .normal a w
  | o :: rest, a, w => if Region.wanted o (yielded all a.tmps) then o.wp P a w (opsL P all Q rest) Q else opsL P all Q rest (a.put o.dst undef) w

/-- A loop whose body comes next. -/
def wpL (P : Program) (x : Code) (Q : Exit → Act → World → Prop) (a : Act) (w : World) : Prop :=
  ∀ (b : Frame) (k : List Item) (cs : List Frame), ∃ e a' w', Q e a' w' ∧ Arrives P (lone (b.at a (.code x :: .inLoop x :: k)) cs w) b k cs e a' w'

def runsTo (P : Program) (Q : Exit → Act → World → Prop) : List It → Exit → Act → World → Prop
  | [], e, a, w => Q e a w
  | .code x :: k, e, a, w => (match e with
    | .normal => x.wp P (runsTo P Q k) a w
    | e => runsTo P Q k e a w)
  | .ops all l :: k, e, a, w => (match e with
    | .normal => opsL P all (runsTo P Q k) l a w
    | e => runsTo P Q k e a w)
  | .blk id :: k, e, a, w => Exit.inBlock id (runsTo P Q k) e a w
  | .loop x :: k, e, a, w => (match e with
    | .normal => wpL P x (runsTo P Q k) a w
    | e => runsTo P Q k e a w)

section
variable {P : Program} {Q Q' : Exit → Act → World → Prop}

theorem Oper.wp_mono2 {o : Oper} {a : Act} {w : World} {K K' : Act → World → Prop} (h : ∀ a w, K a w → K' a w) (hq : ∀ e a w, Q e a w → Q' e a w) (hh : o.wp P a w K Q) : o.wp P a w K' Q' := by
  unfold Oper.wp at *
  generalize (execOp a.eval o).run P w = r at *
  cases r with
  | ok n w' =>
    cases n <;> simp only [Oper.upon] at hh ⊢ <;>
      first
        | exact h _ _ hh
        | exact Calls.mono hh (fun e w'' he => by cases e <;> first | exact h _ _ he | exact hq _ _ _ he | exact (let ⟨a, w, q⟩ := he; ⟨a, w, hq _ _ _ q⟩))
        | exact Rows.mono hh (fun _ _ he => h _ _ he)
  | halt x w' => cases x <;> simp only [Oper.upon] at hh ⊢ <;> first | exact hq _ _ _ hh | exact hh

theorem opsL_mono {all : Array Oper} (hq : ∀ e a w, Q e a w → Q' e a w) : ∀ {l : List Oper} {a : Act} {w : World}, opsL P all Q l a w → opsL P all Q' l a w := by
  intro l
  induction l with
  | nil => intro a w h; exact hq _ _ _ h
  | cons o l ih =>
    intro a w h
    simp only [opsL] at h ⊢
    split
    · rename_i hw; rw [if_pos hw] at h; exact Oper.wp_mono2 (fun _ _ h => ih h) hq h
    · rename_i hw; rw [if_neg hw] at h; exact ih h

theorem runsTo_mono (hq : ∀ e a w, Q e a w → Q' e a w) : ∀ {k : List It} {e : Exit} {a : Act} {w : World}, runsTo P Q k e a w → runsTo P Q' k e a w := by
  intro k
  induction k with
  | nil => intro e a w h; exact hq _ _ _ h
  | cons x k ih =>
    intro e a w h
    have ih' : ∀ e a w, runsTo P Q k e a w → runsTo P Q' k e a w := fun e a w h => ih h
    cases x with
    | code x => cases e <;> simp only [runsTo] at h ⊢ <;> first | exact wp_mono h ih' | exact ih h
    | ops all l => cases e <;> simp only [runsTo] at h ⊢ <;> first | exact opsL_mono ih' h | exact ih h
    | blk id =>
      simp only [runsTo] at h ⊢
      cases e <;> simp only [Exit.inBlock] at h ⊢ <;> first | exact ih h | (split <;> simp_all <;> exact ih h)
    | loop x => cases e <;> simp only [runsTo] at h ⊢ <;> first | exact (fun b k cs => let ⟨e, a', w', q, r⟩ := h b k cs; ⟨e, a', w', ih q, r⟩) | exact ih h

theorem runsTo_ret {k : List It} {a : Act} {w : World} (h : Q .ret a w) : runsTo P Q k .ret a w := by
  induction k with
  | nil => exact h
  | cons x k ih => cases x <;> simp only [runsTo, Exit.inBlock] <;> exact ih

theorem runsTo_panic {k : List It} {a : Act} {w : World} {ch : List PanicEntry} (h : Q (.panic ch) a w) : runsTo P Q k (.panic ch) a w := by
  induction k with
  | nil => exact h
  | cons x k ih => cases x <;> simp only [runsTo, Exit.inBlock] <;> exact ih

def popBlk (id : Nat) : List It → Option (List It)
  | [] => none
  | .blk id' :: k => if id' = id then some k else popBlk id k
  | _ :: k => popBlk id k

theorem runsTo_exit {id : Nat} {a : Act} {w : World} : ∀ {k k' : List It}, popBlk id k = some k' → runsTo P Q k' .normal a w → runsTo P Q k (.exit id) a w := by
  intro k
  induction k with
  | nil => intro k' h; cases h
  | cons x k ih =>
    intro k' h hr
    cases x with
    | blk id' =>
      simp only [popBlk] at h
      simp only [runsTo, Exit.inBlock]
      split at h
      · rename_i e; subst e; cases h; rw [if_pos rfl]; exact hr
      · rename_i e; rw [if_neg (fun x => e x.symm)]; exact ih h hr
    | code x => exact ih h hr
    | ops all l => exact ih h hr
    | loop x => exact ih h hr

theorem wp_seq_runs {x y : Code} {k : List It} {a : Act} {w : World} (h : runsTo P Q (.code x :: .code y :: k) .normal a w) : runsTo P Q (.code (.seq x y) :: k) .normal a w := by
  simp only [runsTo] at h ⊢
  exact wp_seq (wp_mono h fun e a w he => by cases e <;> exact he)

theorem wp_block_runs {id : Nat} {x : Code} {k : List It} {a : Act} {w : World} (h : runsTo P Q (.code x :: .blk id :: k) .normal a w) : runsTo P Q (.code (.block id x) :: k) .normal a w := by
  simp only [runsTo] at h ⊢
  exact wp_block (wp_mono h fun e a w he => by simpa only [runsTo] using he)

theorem wpL_loop {x : Code} {a : Act} {w : World} (h : wpL P x Q a w) : (Code.loop x).wp P Q a w :=
  fun b k cs => let ⟨e, a', w', q, r⟩ := h b k cs; ⟨e, a', w', q, .of_steps (.one step_loop) r⟩

/-- One round, and then what comes. -/
theorem wpL_round {x : Code} {a : Act} {w : World} (h : x.wp P (Exit.then (wpL P x Q) Q) a w) : wpL P x Q a w := by
  intro b k cs
  obtain ⟨e, a₁, w₁, hq, harr⟩ := h b (.inLoop x :: k) cs
  cases e with
  | normal =>
    obtain ⟨e₂, a₂, w₂, hq₂, harr₂⟩ := hq b k cs
    exact ⟨e₂, a₂, w₂, hq₂, .of_steps (Steps.trans harr (.one step_inLoop)) harr₂⟩
  | exit id => exact ⟨_, a₁, w₁, hq, .pass (x := .inLoop x) rfl (fun _ _ => .inl (by simp)) harr⟩
  | goto l => exact ⟨_, a₁, w₁, hq, .pass (x := .inLoop x) rfl (fun _ _ => .inl (by simp)) harr⟩
  | ret => exact ⟨_, a₁, w₁, hq, .pass (x := .inLoop x) rfl (fun _ _ => .inl (by simp)) harr⟩
  | panic ch => exact ⟨_, a₁, w₁, hq, .pass (x := .inLoop x) rfl (fun _ _ => .inl (by simp)) harr⟩
  | outgrown => exact ⟨_, a₁, w₁, hq, .pass (x := .inLoop x) rfl (fun _ _ => .inl (by simp)) harr⟩

theorem runsTo_round {x : Code} {k : List It} {a : Act} {w : World} (h : runsTo P Q (.code x :: .loop x :: k) .normal a w) : runsTo P Q (.loop x :: k) .normal a w := by
  simp only [runsTo] at h ⊢
  exact wpL_round (wp_mono h fun e a w he => by cases e <;> exact he)

theorem wpOps_of_opsL {all : Array Oper} : ∀ (l : List Oper) (k : Nat) (a : Act) (w : World), (∀ j, l[j]? = all[k + j]?) → opsL P all Q l a w → wpOps P all Q (List.range' k l.length) a w := by
  intro l
  induction l with
  | nil => intro k a w _ h; exact h
  | cons o l ih =>
    intro k a w hl h
    have h0 : all[k]? = some o := by have := hl 0; simpa using this.symm
    have hrest : ∀ a w, opsL P all Q l a w → wpOps P all Q (List.range' (k + 1) l.length) a w := fun a w => ih (k + 1) a w fun j => by
      have := hl (j + 1); simpa [Nat.add_assoc, Nat.add_comm 1 j] using this
    simp only [List.length_cons, List.range'_succ, wpOps, h0]
    simp only [opsL] at h
    split
    · rename_i hw; rw [if_pos hw] at h; exact .inl (Oper.wp_mono hrest h)
    · rename_i hw; rw [if_neg hw] at h; exact hrest _ _ h

theorem wp_region_opsL {id : Nat} {all : Array Oper} {a : Act} {w : World} (h : opsL P all Q all.toList a w) : (Code.region id all false).wp P Q a w := by
  refine wp_region ?_
  have := wpOps_of_opsL all.toList 0 a w (fun j => by simp) h
  rw [List.range_eq_range']
  simpa using this

end

/-! ### The abstract run -/
/-- What a call comes to: to be known of the function. -/
def ACalls (P : Program) (f : FuncId) (args : List AV) (h : AH) (K : ARes → AH → Prop) : Prop :=
  ∀ (c : Cx) (vs : Array Value), Sim c h → VRs c args vs.toList → Calls P f vs c.w fun e w => ∃ c' h' r, c'.w = w ∧ Ext c h c' h' ∧ Sim c' h' ∧ ResR c' r e ∧ K r h'

def QL (c : Cx) (h : AH) (K : AExit → AAct → AH → Prop) : Exit → Act → World → Prop := fun e act w =>
  ∃ c' h' a' e', c'.w = w ∧ Ext c h c' h' ∧ Sim c' h' ∧ ActR c' a' act ∧ ExR c' e' e ∧ K e' a' h'

/-- What the items come to from a state on; 'h0': the heap with which the function began. -/
def AStk (P : Program) (h0 : AH) (k : List It) (a : AAct) (h : AH) (K : AExit → AAct → AH → Prop) : Prop :=
  ∀ (c0 c : Cx) (act : Act), (∀ i, h0.length ≤ i → c0.φ i = none) → Ext c0 h0 c h → Sim c h → ActR c a act → runsTo P (QL c0 h0 K) k .normal act c.w

theorem ACalls.mono {P : Program} {f : FuncId} {args : List AV} {h : AH} {K K' : ARes → AH → Prop} (hh : ACalls P f args h K) (hk : ∀ r h, K r h → K' r h) : ACalls P f args h K' :=
  fun c vs hs hv => (hh c vs hs hv).mono fun e w ⟨c', h', r, a, b, d, e', f'⟩ => ⟨c', h', r, a, b, d, e', hk _ _ f'⟩

theorem AStk.mono {P : Program} {h0 : AH} {k : List It} {a : AAct} {h : AH} {K K' : AExit → AAct → AH → Prop} (hh : AStk P h0 k a h K) (hk : ∀ e a h, K e a h → K' e a h) : AStk P h0 k a h K' :=
  fun c0 c act hd he hs ha => runsTo_mono (fun e a w ⟨c', h', a', e', q1, q2, q3, q4, q5, q6⟩ => ⟨c', h', a', e', q1, q2, q3, q4, q5, hk _ _ _ q6⟩) (hh c0 c act hd he hs ha)

/-- A call's end, back in the caller. -/
def Resume (R : List It → AAct → AH → Prop) (K : AExit → AAct → AH → Prop) (k : List It) (a : AAct) (dst : Option Tmp) : ARes → AH → Prop
  | .ret v, h => R k (a.put dst v) h
  | .pan v, h => K (.pan v) a h

/-- Behind an operation. -/
def After (P : Program) (R : List It → AAct → AH → Prop) (K : AExit → AAct → AH → Prop) (k : List It) (a : AAct) (dst : Option Tmp) : ANext → AH → Prop
  | .val v, h => R k (a.put dst v) h
  | .skip, h => R k (a.put dst .undef) h
  | .enter f args, h => ACalls P f args h (Resume R K k a dst)
  | .dfr f cs args, h => R k (({ a with defers := ⟨f, cs, args⟩ :: a.defers } : AAct).put dst .undef) h
  | .pan v, h => K (.pan v) a h
  | .recov, _ => False

/-- What an operation's guard says: 'none' where that can't be told. -/
def yieldA (all : Array Oper) (tmps : List AV) (j : Nat) : Option (Option Bool) :=
  match (all[j]?).bind (·.dst) with
  | some d => (match tmps[d]? with
    | some (.bool b) => some (some b)
    | some .undef => some none
    | some _ => none
    | none => some none)
  | none => some none

def run (P : Program) (T : Tab) (F : FTab) (h0 : AH) (K : AExit → AAct → AH → Prop) : Nat → List It → AAct → AH → Prop
  | 0, _, _, _ => False
  | _ + 1, [], a, h => K .norm a h
  | n + 1, .code x :: k, a, h => (match x with
    | .skip => run P T F h0 K n k a h
    | .label _ => run P T F h0 K n k a h
    | .region i all draw => if draw = true then AStk P h0 (.code (.region i all true) :: k) a h K else run P T F h0 K n (.ops all all.toList :: k) a h
    | .seq x y => run P T F h0 K n (.code x :: .code y :: k) a h
    | .cond o x y => (match ev a.tmps o with
      | .bool b => if b = true then run P T F h0 K n (.code x :: k) a h else run P T F h0 K n (.code y :: k) a h
      | _ => False)
    | .block id x => run P T F h0 K n (.code x :: .blk id :: k) a h
    | .loop x => AStk P h0 (.loop x :: k) a h K
    | .exit id => (match popBlk id k with
      | some k' => run P T F h0 K n k' a h
      | none => False)
    | .ret => K .ret a h
    | _ => False)
  | n + 1, .ops all l :: k, a, h => (match l with
    | [] => run P T F h0 K n k a h
    | o :: rest => (match o.guard with
      | none => aop T F (ev a.tmps) h o (After P (run P T F h0 K n) K (.ops all rest :: k) a o.dst)
      | some (j, want) => (match yieldA all a.tmps j with
        | some (some b) => if (b == want) = true then aop T F (ev a.tmps) h o (After P (run P T F h0 K n) K (.ops all rest :: k) a o.dst) else run P T F h0 K n (.ops all rest :: k) (a.put o.dst .undef) h
        | some none => run P T F h0 K n (.ops all rest :: k) (a.put o.dst .undef) h
        | none => False)))
  | n + 1, .blk _ :: k, a, h => run P T F h0 K n k a h
  | _ + 1, .loop x :: k, a, h => AStk P h0 (.loop x :: k) a h K

end Go.Vm
