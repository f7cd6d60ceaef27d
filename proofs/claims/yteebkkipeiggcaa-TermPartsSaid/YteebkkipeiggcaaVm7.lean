/- The abstract machine, part 7: numbers, strings, bools, nil; lengths; interface values; maps. -/
import Derived.Test.YteebkkipeiggcaaVm6
set_option linter.unusedVariables false
set_option linter.unusedSimpArgs false
namespace Go.Vm
open Go

section
variable {P : Program} {T : Tab} {c : Cx} {h : AH} {K : AV → AH → Prop}

/-! ### Operators of two -/
def aIntOp (op : BinOp) (k : IntKind) (a b : Int) (K : AV → Prop) : Prop :=
  match op with
  | .add => K (.int k (k.wrap (a + b)))
  | .sub => K (.int k (k.wrap (a - b)))
  | .mul => K (.int k (k.wrap (a * b)))
  | .quo => if b = 0 then False else K (.int k (k.wrap (a.tdiv b)))
  | .rem => if b = 0 then False else K (.int k (a.tmod b))
  | .and => K (.int k (k.wrap (BitVec.ofInt k.bits a &&& BitVec.ofInt k.bits b).toNat))
  | .or => K (.int k (k.wrap (BitVec.ofInt k.bits a ||| BitVec.ofInt k.bits b).toNat))
  | .xor => K (.int k (k.wrap (BitVec.ofInt k.bits a ^^^ BitVec.ofInt k.bits b).toNat))
  | .andNot => K (.int k (k.wrap (BitVec.ofInt k.bits a &&& ~~~BitVec.ofInt k.bits b).toNat))
  | .eql => K (.bool (a == b))
  | .neq => K (.bool (a != b))
  | .lss => K (.bool (decide (a < b)))
  | .leq => K (.bool (decide (a ≤ b)))
  | .gtr => K (.bool (decide (a > b)))
  | .geq => K (.bool (decide (a ≥ b)))
  | _ => False

def aStrOp (op : BinOp) (a b : ByteArray) (K : AV → Prop) : Prop :=
  match op with
  | .add => ((a.size + b.size : Nat) : Int) ≤ 9223372036854775807 ∧ K (.str (a ++ b))
  | .eql => K (.bool (a.toList == b.toList))
  | .neq => K (.bool (!(a.toList == b.toList)))
  | .lss => K (.bool (Op.bytesLess a.toList b.toList))
  | .leq => K (.bool (Op.bytesLess a.toList b.toList || a.toList == b.toList))
  | .gtr => K (.bool (!(Op.bytesLess a.toList b.toList || a.toList == b.toList)))
  | .geq => K (.bool (!Op.bytesLess a.toList b.toList))
  | _ => False

/-- Is it nil, for sure, or not, for sure? -/
def AV.nil? : AV → Option Bool
  | .nilp | .nils | .nilm | .nilf | .nili => some true
  | .ptr .. | .ep .. | .rop .. | .sl .. | .vsl .. | .map _ | .fn .. | .iface .. => some false
  | .ro _ (_ :: _) => some false
  | _ => none

/-- A comparison with nil of a type of a kind. -/
def aNilEq (T : Tab) (t : TypeId) (x y : AV) (K : Bool → Prop) : Prop :=
  match T t with
  | none => False
  | some ti => match ti.desc, x, y with
    | .pointer _, .nilp, z => (match z with | .nilp => K true | .ptr .. => K false | .ep .. => K false | .rop .. => K false | _ => False)
    | .pointer _, z, .nilp => (match z with | .ptr .. => K false | .ep .. => K false | .rop .. => K false | _ => False)
    | .slice _, .nils, z => (match z with | .nils => K true | .sl .. => K false | .vsl .. => K false | .ro _ (_ :: _) => K false | _ => False)
    | .slice _, z, .nils => (match z with | .sl .. => K false | .vsl .. => K false | .ro _ (_ :: _) => K false | _ => False)
    | .map _ _, .nilm, z => (match z with | .nilm => K true | .map _ => K false | _ => False)
    | .map _ _, z, .nilm => (match z with | .map _ => K false | _ => False)
    | .func _ _ _, .nilf, z => (match z with | .nilf => K true | .fn .. => K false | _ => False)
    | .func _ _ _, z, .nilf => (match z with | .fn .. => K false | _ => False)
    | .interface _, .nili, z => (match z with | .nili => K true | .iface .. => K false | _ => False)
    | .interface _, z, .nili => (match z with | .iface .. => K false | _ => False)
    | .bool, .bool a, .bool b => K (a == b)
    | _, _, _ => False

def constOp : Operand → Bool
  | .const _ => true
  | _ => false

/-- The operator; 'k': is one of the operands written out? -/
def aBin (T : Tab) (op : BinOp) (t : TypeId) (k : Bool) (x y : AV) (h : AH) (K : AV → AH → Prop) : Prop :=
  match x, y with
  | .int k1 a, .int k2 b => (match op with
    | .shl => if b < 0 then False else K (.int k1 (k1.wrap (a * 2 ^ (min b.toNat k1.bits)))) h
    | .shr => if b < 0 then False else K (.int k1 (a.fdiv (2 ^ (min b.toNat k1.bits)))) h
    | op => if k1 = k2 then aIntOp op k1 a b fun z => K z h else False)
  | .str a, .str b => aStrOp op a b fun z => K z h
  | x, y => (match op with
    | .eql => if k then aNilEq T t x y fun b => K (.bool b) h else (match x with | .bool _ => aNilEq T t x y fun b => K (.bool b) h | _ => False)
    | .neq => if k then aNilEq T t x y fun b => K (.bool (!b)) h else (match x with | .bool _ => aNilEq T t x y fun b => K (.bool (!b)) h | _ => False)
    | _ => False)

theorem aIntOp_sound {t : TypeId} {op : BinOp} {k : IntKind} {a b : Int} (hk : aIntOp op k a b fun z => K z h) : SV0 P (binOp op t (.int k a) (.int k b)) c fun y => K y h := by
  have key : ∀ z v, K z h → (binOp op t (.int k a) (.int k b)).run P c.w = .ok v c.w → VR c z v → SV0 P (binOp op t (.int k a) (.int k b)) c (fun y => K y h) := fun z v h1 h2 h3 => SV0.same h1 h2 h3
  cases op <;> simp only [aIntOp] at hk
  case add => exact key _ _ hk (by simp only [binOp, ne_eq, not_true_eq_false, if_false]; rfl) .int
  case sub => exact key _ _ hk (by simp only [binOp, ne_eq, not_true_eq_false, if_false]; rfl) .int
  case mul => exact key _ _ hk (by simp only [binOp, ne_eq, not_true_eq_false, if_false]; rfl) .int
  case and => exact key _ _ hk (by simp only [binOp, ne_eq, not_true_eq_false, if_false]; rfl) .int
  case or => exact key _ _ hk (by simp only [binOp, ne_eq, not_true_eq_false, if_false]; rfl) .int
  case xor => exact key _ _ hk (by simp only [binOp, ne_eq, not_true_eq_false, if_false]; rfl) .int
  case andNot => exact key _ _ hk (by simp only [binOp, ne_eq, not_true_eq_false, if_false]; rfl) .int
  case eql => exact key _ _ hk (by simp only [binOp, ne_eq, not_true_eq_false, if_false]; rfl) .bool
  case neq => exact key _ _ hk (by simp only [binOp, ne_eq, not_true_eq_false, if_false]; rfl) .bool
  case lss => exact key _ _ hk (by simp only [binOp, ne_eq, not_true_eq_false, if_false]; rfl) .bool
  case leq => exact key _ _ hk (by simp only [binOp, ne_eq, not_true_eq_false, if_false]; rfl) .bool
  case gtr => exact key _ _ hk (by simp only [binOp, ne_eq, not_true_eq_false, if_false]; rfl) .bool
  case geq => exact key _ _ hk (by simp only [binOp, ne_eq, not_true_eq_false, if_false]; rfl) .bool
  all_goals
    split at hk
    · exact hk.elim
    · rename_i hne
      exact key _ _ hk (by simp only [binOp, Op.intDiv, hne, if_false, ne_eq, not_true_eq_false]; rfl) .int

theorem aStrOp_sound {t : TypeId} {op : BinOp} {a b : ByteArray} (hk : aStrOp op a b fun z => K z h) : SV0 P (binOp op t (.string a) (.string b)) c fun y => K y h := by
  have key : ∀ z v, K z h → (binOp op t (.string a) (.string b)).run P c.w = .ok v c.w → VR c z v → SV0 P (binOp op t (.string a) (.string b)) c (fun y => K y h) := fun z v h1 h2 h3 => SV0.same h1 h2 h3
  cases op <;> simp only [aStrOp] at hk
  case add =>
    obtain ⟨hle, hk⟩ := hk
    have hle' : ¬ (((a.size + b.size : Nat) : Int) > IntKind.i64.max) := by
      have : IntKind.i64.max = 9223372036854775807 := by decide
      rw [this]; omega
    refine key _ (.string (a ++ b)) hk ?_ .str
    simp only [binOp, Op.stringOp, hle', if_false, Sem.run_pure]
  case eql => exact key _ _ hk rfl .bool
  case neq => exact key _ _ hk rfl .bool
  case lss => exact key _ _ hk rfl .bool
  case leq => exact key _ _ hk rfl .bool
  case gtr => exact key _ _ hk rfl .bool
  case geq => exact key _ _ hk rfl .bool
  all_goals exact hk.elim

theorem aNilEq_sound (hT : T.OK P) {t : TypeId} {x y : AV} {v u : Value} (w : World) (hv : VR c x v) (hu : VR c y u) {K : Bool → Prop} (hk : aNilEq T t x y K) : ∃ b, K b ∧ (Op.equal t v u).run P w = .ok b w := by
  unfold aNilEq at hk
  split at hk
  · exact hk.elim
  · rename_i ti ht
    have hr := (hT t ti ht).run_underlying w
    generalize hd : ti.desc = dd at hk hr
    split at hk <;> (try exact hk.elim)
    all_goals first
      | (split at hk <;> first
          | exact hk.elim
          | (cases hv <;> cases hu <;> exact ⟨_, hk, by
              show (Op.equalIn (9999 + 1) t _ _).run P w = _
              rw [Op.equalIn]
              simp only [Sem.run_bind, hr, Result.andThen_ok, Sem.run_pure, Option.isNone_none, Option.isNone_some]⟩))
      | (cases hv <;> cases hu <;> exact ⟨_, hk, by
              show (Op.equalIn (9999 + 1) t _ _).run P w = _
              rw [Op.equalIn]
              simp only [Sem.run_bind, hr, Result.andThen_ok, Sem.run_pure, Option.isNone_none, Option.isNone_some]⟩)

end
end Go.Vm
