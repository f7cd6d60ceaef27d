/- Plain laws: numbers of 64 bits, and what operators make of them. -/
import Derived.Test.YteebkkipeiggcaaB2
import Derived.Recover
import Derived.Test.YteebkkipeiggcaaB1
set_option linter.unusedVariables false
set_option linter.unusedSimpArgs false
namespace Go.Vm
open Go
def In64 (n : Int) : Prop := -9223372036854775808 ≤ n ∧ n ≤ 9223372036854775807
instance (n : Int) : Decidable (In64 n) := by unfold In64; infer_instance
theorem wrapI (n : Int) : IntKind.i64.wrap n = if n % 18446744073709551616 ≥ 9223372036854775808 then n % 18446744073709551616 - 18446744073709551616 else n % 18446744073709551616 := by
  simp [IntKind.wrap, IntKind.bits, IntKind.signed]
theorem wrapU (n : Int) : IntKind.u64.wrap n = n % 18446744073709551616 := by
  simp [IntKind.wrap, IntKind.bits, IntKind.signed]
theorem wrapI_in (n : Int) : In64 (IntKind.i64.wrap n) := by rw [wrapI]; unfold In64; split <;> omega
theorem wrapI_id {n : Int} (h : In64 n) : IntKind.i64.wrap n = n := by unfold In64 at h; rw [wrapI]; split <;> omega
theorem wrapI_iff (n : Int) : IntKind.i64.wrap n = n ↔ In64 n := ⟨fun h => h ▸ wrapI_in n, wrapI_id⟩
theorem wrapI_mod (n : Int) : ∃ k : Int, IntKind.i64.wrap n = n + k * 18446744073709551616 := by
  rw [wrapI]; split
  · exact ⟨-(n / 18446744073709551616) - 1, by omega⟩
  · exact ⟨-(n / 18446744073709551616), by omega⟩
/-- A number, or that it is beyond. -/
def fitZ (n : Int) : Int × Int := if In64 n then (n, 0) else (0, 11)
theorem fitZ_in {n : Int} (h : In64 n) : fitZ n = (n, 0) := if_pos h
theorem fitZ_out {n : Int} (h : ¬ In64 n) : fitZ n = (0, 11) := if_neg h
theorem fitZ_cases (n : Int) : (In64 n ∧ fitZ n = (n, 0)) ∨ (¬ In64 n ∧ fitZ n = (0, 11)) := by
  by_cases h : In64 n
  · exact .inl ⟨h, if_pos h⟩
  · exact .inr ⟨h, if_neg h⟩
theorem fitZ_fst (n : Int) : In64 (fitZ n).1 := by rcases fitZ_cases n with ⟨h, e⟩ | ⟨h, e⟩ <;> rw [e]; exact h; exact ⟨by decide, by decide⟩

theorem plus_law {a b : Int} (ha : In64 a) (hb : In64 b) : fitZ (a + b) = if (decide (a < 0) == decide (b < 0)) && (decide (IntKind.i64.wrap (a + b) < 0) != decide (a < 0)) then (0, 11) else (IntKind.i64.wrap (a + b), 0) := by
  unfold In64 at ha hb
  by_cases h : In64 (a + b)
  · rw [fitZ_in h, wrapI_id h]
    by_cases h1 : a < 0 <;> by_cases h2 : b < 0 <;> by_cases h3 : a + b < 0 <;> simp [h1, h2, h3] <;> omega
  · rw [fitZ_out h]
    unfold In64 at h
    rw [wrapI]
    by_cases h1 : a < 0 <;> by_cases h2 : b < 0 <;> (split <;> rename_i h3) <;> simp [h1, h2] <;> omega
theorem minus_law {a b : Int} (ha : In64 a) (hb : In64 b) : fitZ (a - b) = if (decide (a < 0) != decide (b < 0)) && (decide (IntKind.i64.wrap (a - b) < 0) != decide (a < 0)) then (0, 11) else (IntKind.i64.wrap (a - b), 0) := by
  unfold In64 at ha hb
  by_cases h : In64 (a - b)
  · rw [fitZ_in h, wrapI_id h]
    by_cases h1 : a < 0 <;> by_cases h2 : b < 0 <;> by_cases h3 : a - b < 0 <;> simp [h1, h2, h3] <;> omega
  · rw [fitZ_out h]
    unfold In64 at h
    rw [wrapI]
    by_cases h1 : a < 0 <;> by_cases h2 : b < 0 <;> (split <;> rename_i h3) <;> simp [h1, h2] <;> omega

/-- The product of two words, from its four parts. -/
theorem mul_law {a b : Int} (ha : 0 ≤ a ∧ a < 18446744073709551616) (hb : 0 ≤ b ∧ b < 18446744073709551616) :
    let x0 := a % 4294967296; let x1 := a / 4294967296; let y0 := b % 4294967296; let y1 := b / 4294967296
    let t := x1 * y0 + x0 * y0 / 4294967296
    let w1 := t % 4294967296 + x0 * y1
    x0 * y0 < 18446744073709551616 ∧ 0 ≤ x0 * y0 ∧ x1 * y0 < 18446744073709551616 ∧ 0 ≤ x1 * y0 ∧ t < 18446744073709551616 ∧ 0 ≤ t ∧ x0 * y1 < 18446744073709551616 ∧ 0 ≤ x0 * y1 ∧ w1 < 18446744073709551616 ∧ 0 ≤ w1 ∧ x1 * y1 < 18446744073709551616 ∧ 0 ≤ x1 * y1 ∧
    x1 * y1 + t / 4294967296 + w1 / 4294967296 = a * b / 18446744073709551616 := by
  intro x0 x1 y0 y1 t w1
  have hx0 : 0 ≤ x0 ∧ x0 ≤ 4294967295 := by omega
  have hx1 : 0 ≤ x1 ∧ x1 ≤ 4294967295 := by omega
  have hy0 : 0 ≤ y0 ∧ y0 ≤ 4294967295 := by omega
  have hy1 : 0 ≤ y1 ∧ y1 ≤ 4294967295 := by omega
  have e : a * b = x0 * y0 + 4294967296 * (x1 * y0 + x0 * y1) + 18446744073709551616 * (x1 * y1) := by
    have e1 : a = x0 + 4294967296 * x1 := by omega
    have e2 : b = y0 + 4294967296 * y1 := by omega
    rw [e1, e2]; grind
  have bd : ∀ x y : Int, 0 ≤ x ∧ x ≤ 4294967295 → 0 ≤ y ∧ y ≤ 4294967295 → 0 ≤ x * y ∧ x * y ≤ 18446744065119617025 := fun x y hx hy =>
    ⟨Int.mul_nonneg hx.1 hy.1, by have := Int.mul_le_mul hx.2 hy.2 hy.1 (by decide : (0 : Int) ≤ 4294967295); omega⟩
  have p00 := bd x0 y0 hx0 hy0
  have p10 := bd x1 y0 hx1 hy0
  have p01 := bd x0 y1 hx0 hy1
  have p11 := bd x1 y1 hx1 hy1
  rw [e]
  have ht : t = x1 * y0 + x0 * y0 / 4294967296 := rfl
  have hw : w1 = t % 4294967296 + x0 * y1 := rfl
  generalize x0 * y0 = p at *
  generalize x1 * y0 = q at *
  generalize x0 * y1 = r at *
  generalize x1 * y1 = s at *
  clear_value t w1
  omega
theorem land_low {a : Int} (ha : 0 ≤ a ∧ a < 18446744073709551616) : IntKind.u64.wrap ((BitVec.ofInt 64 a &&& BitVec.ofInt 64 4294967295).toNat : Int) = a % 4294967296 := by
  obtain ⟨n, rfl⟩ := Int.eq_ofNat_of_zero_le ha.1
  have h : (BitVec.ofInt 64 (n : Int) &&& BitVec.ofInt 64 4294967295).toNat = n % 4294967296 := by
    have e2 : BitVec.ofInt 64 4294967295 = BitVec.ofNat 64 (2 ^ 32 - 1) := by decide
    rw [e2, BitVec.toNat_and, BitVec.ofInt_natCast, BitVec.toNat_ofNat, BitVec.toNat_ofNat]
    rw [Nat.mod_eq_of_lt (by omega : n < 2 ^ 64), Nat.mod_eq_of_lt (by decide : 2 ^ 32 - 1 < 2 ^ 64), Nat.and_two_pow_sub_one_eq_mod]
  rw [h, wrapU]; omega
theorem wrapB (x : BitVec 64) : IntKind.i64.wrap (x.toNat : Int) = x.toInt := by
  rw [wrapI, BitVec.toInt_eq_toNat_cond]
  have := x.isLt
  split <;> split <;> omega
theorem toInt_in (x : BitVec 64) : In64 x.toInt := by rw [← wrapB]; exact wrapI_in _
theorem ofInt_id {a : Int} (h : In64 a) : (BitVec.ofInt 64 a).toInt = a := by
  unfold In64 at h
  rw [BitVec.toInt_ofInt, Int.bmod_def]; split <;> omega
def andZ (a b : Int) : Int := (BitVec.ofInt 64 a &&& BitVec.ofInt 64 b).toInt
def orZ (a b : Int) : Int := (BitVec.ofInt 64 a ||| BitVec.ofInt 64 b).toInt
def xorZ (a b : Int) : Int := (BitVec.ofInt 64 a ^^^ BitVec.ofInt 64 b).toInt
def notZ (a : Int) : Int := -1 - a
theorem notZ_law {a : Int} (h : In64 a) : (BitVec.ofInt 64 (-1) ^^^ BitVec.ofInt 64 a).toInt = notZ a := by
  have e : BitVec.ofInt 64 (-1) = BitVec.allOnes 64 := by decide
  have h2 : (BitVec.allOnes 64 ^^^ BitVec.ofInt 64 a) = ~~~ BitVec.ofInt 64 a := by rw [BitVec.allOnes_xor]
  rw [e, h2, BitVec.toInt_not, notZ]
  unfold In64 at h
  have hn := BitVec.toNat_ofInt (n := 64) a
  have : ((BitVec.ofInt 64 a).toNat : Int) = a % 18446744073709551616 := by rw [hn]; simp; omega
  rw [this, Int.bmod_def]
  split <;> omega
theorem and_one {b : Int} (h : In64 b) : andZ b 1 = b % 2 := by
  have h2 : (BitVec.ofInt 64 b &&& BitVec.ofInt 64 1).toNat = (b % 2).toNat := by
    have e2 : BitVec.ofInt 64 1 = BitVec.ofNat 64 (2 ^ 1 - 1) := by decide
    rw [e2, BitVec.toNat_and, BitVec.toNat_ofInt, BitVec.toNat_ofNat, Nat.mod_eq_of_lt (by decide : 2 ^ 1 - 1 < 2 ^ 64), Nat.and_two_pow_sub_one_eq_mod]
    unfold In64 at h
    simp; omega
  unfold andZ
  rw [← wrapB, h2, wrapI]; split <;> omega

/-- Moved up and down again. -/
theorem left_law {a P : Int} (hP : 0 < P ∧ P ≤ 9223372036854775808) : (IntKind.i64.wrap (a * P)).fdiv P = a ↔ In64 (a * P) := by
  rw [Int.fdiv_eq_ediv_of_nonneg _ (by omega)]
  constructor
  · intro h
    obtain ⟨k, hk⟩ := wrapI_mod (a * P)
    have h1 := Int.ediv_mul_le (IntKind.i64.wrap (a * P)) (b := P) (by omega)
    have h2 := Int.lt_ediv_add_one_mul_self (IntKind.i64.wrap (a * P)) (b := P) (by omega)
    rw [h] at h1 h2
    rw [Int.add_mul] at h2
    rw [← wrapI_iff]
    omega
  · intro h
    rw [wrapI_id h, Int.mul_ediv_cancel _ (by omega)]
attribute [simp] IntKind.bits IntKind.signed
@[simp ↓] theorem bytes_beq_pre (a b : ByteArray) : (a.toList == b.toList) = decide (a = b) := bytes_beq a b
@[simp ↓] theorem bytes_eq_pre (a b : ByteArray) : (a.toList = b.toList) = (a = b) := bytes_inj a b
theorem land_low' (x : Int) : IntKind.u64.wrap (((x % 18446744073709551616).toNat &&& 4294967295 : Nat) : Int) = x % 4294967296 := by
  have h := land_low (a := x % 18446744073709551616) (by omega)
  have e : (BitVec.ofInt 64 (x % 18446744073709551616) &&& BitVec.ofInt 64 4294967295).toNat = ((x % 18446744073709551616).toNat &&& 4294967295) := by
    rw [BitVec.toNat_and, BitVec.toNat_ofInt, BitVec.toNat_ofInt]
    congr 1
    simp
  rw [e] at h
  rw [h]; omega
def landK (k : IntKind) (a b : Int) : Int := k.wrap ((BitVec.ofInt k.bits a &&& BitVec.ofInt k.bits b).toNat : Int)
def lorK (k : IntKind) (a b : Int) : Int := k.wrap ((BitVec.ofInt k.bits a ||| BitVec.ofInt k.bits b).toNat : Int)
def lxorK (k : IntKind) (a b : Int) : Int := k.wrap ((BitVec.ofInt k.bits a ^^^ BitVec.ofInt k.bits b).toNat : Int)
@[simp ↓] theorem landK_in (k : IntKind) (a b : Int) : k.wrap ((BitVec.ofInt k.bits a &&& BitVec.ofInt k.bits b).toNat : Int) = landK k a b := rfl
@[simp ↓] theorem lorK_in (k : IntKind) (a b : Int) : k.wrap ((BitVec.ofInt k.bits a ||| BitVec.ofInt k.bits b).toNat : Int) = lorK k a b := rfl
@[simp ↓] theorem lxorK_in (k : IntKind) (a b : Int) : k.wrap ((BitVec.ofInt k.bits a ^^^ BitVec.ofInt k.bits b).toNat : Int) = lxorK k a b := rfl
theorem landK_i64 (a b : Int) : landK .i64 a b = andZ a b := wrapB _
theorem lorK_i64 (a b : Int) : lorK .i64 a b = orZ a b := wrapB _
theorem lxorK_i64 (a b : Int) : lxorK .i64 a b = xorZ a b := wrapB _
theorem landK_low (x : Int) : landK .u64 x 4294967295 = x % 4294967296 := by
  rw [← land_low' x]
  show IntKind.u64.wrap ((BitVec.ofInt 64 x &&& BitVec.ofInt 64 4294967295).toNat : Int) = _
  rw [BitVec.toNat_and, BitVec.toNat_ofInt]
  congr 2
theorem fdiv_low (x : Int) : x.fdiv 4294967296 = x / 4294967296 := Int.fdiv_eq_ediv_of_nonneg _ (by decide)
theorem mul_high {a b : Int} (ha : 0 ≤ a ∧ a < 18446744073709551616) (hb : 0 ≤ b ∧ b < 18446744073709551616) :
    IntKind.u64.wrap (IntKind.u64.wrap (IntKind.u64.wrap (a / 4294967296 * (b / 4294967296)) + IntKind.u64.wrap (IntKind.u64.wrap (a / 4294967296 * (b % 4294967296)) + IntKind.u64.wrap (a % 4294967296 * (b % 4294967296)) / 4294967296) / 4294967296) +
      IntKind.u64.wrap (IntKind.u64.wrap (IntKind.u64.wrap (a / 4294967296 * (b % 4294967296)) + IntKind.u64.wrap (a % 4294967296 * (b % 4294967296)) / 4294967296) % 4294967296 + IntKind.u64.wrap (a % 4294967296 * (b / 4294967296))) / 4294967296) = a * b / 18446744073709551616 := by
  have h := mul_law ha hb
  have hq : a * b / 18446744073709551616 < 18446744073709551616 ∧ 0 ≤ a * b / 18446744073709551616 := by
    have h1 := Int.mul_nonneg ha.1 hb.1
    have h2 := Int.mul_le_mul (Int.le_sub_one_of_lt ha.2) (Int.le_sub_one_of_lt hb.2) hb.1 (by decide : (0 : Int) ≤ 18446744073709551616 - 1)
    generalize a * b = m at *
    omega
  simp only at h
  simp only [wrapU]
  generalize a * b / 18446744073709551616 = m at *
  generalize a % 4294967296 * (b % 4294967296) = p at *
  generalize a / 4294967296 * (b % 4294967296) = q at *
  generalize a % 4294967296 * (b / 4294967296) = r at *
  generalize a / 4294967296 * (b / 4294967296) = t at *
  omega
/-- A product by its parts' sizes. -/
theorem times_sign (a b : Int) : a * b = if (decide (a < 0) != decide (b < 0)) = true then -((a.natAbs : Int) * b.natAbs) else (a.natAbs : Int) * b.natAbs := by
  by_cases h1 : a < 0 <;> by_cases h2 : b < 0 <;> simp [h1, h2]
  · have e1 : (a.natAbs : Int) = -a := by omega
    have e2 : (b.natAbs : Int) = -b := by omega
    rw [e1, e2]; grind
  · have e1 : (a.natAbs : Int) = -a := by omega
    have e2 : (b.natAbs : Int) = b := by omega
    rw [e1, e2]; grind
  · have e1 : (a.natAbs : Int) = a := by omega
    have e2 : (b.natAbs : Int) = -b := by omega
    rw [e1, e2]; grind
  · have e1 : (a.natAbs : Int) = a := by omega
    have e2 : (b.natAbs : Int) = b := by omega
    rw [e1, e2]
theorem quo_sign (a b : Int) : a.tdiv b = if (decide (a < 0) != decide (b < 0)) = true then -((a.natAbs : Int) / b.natAbs) else (a.natAbs : Int) / b.natAbs := by
  by_cases h1 : a < 0 <;> by_cases h2 : b < 0 <;> simp [h1, h2]
  · have e1 : a = -(a.natAbs : Int) := by omega
    have e2 : b = -(b.natAbs : Int) := by omega
    generalize a.natAbs = m at *
    generalize b.natAbs = n at *
    subst e1; subst e2
    rw [Int.neg_tdiv, Int.tdiv_neg, Int.neg_neg, Int.tdiv_eq_ediv_of_nonneg (by omega)]
  · have e1 : a = -(a.natAbs : Int) := by omega
    have e2 : b = (b.natAbs : Int) := by omega
    generalize a.natAbs = m at *
    generalize b.natAbs = n at *
    subst e1; subst e2
    rw [Int.neg_tdiv, Int.tdiv_eq_ediv_of_nonneg (by omega)]
  · have e1 : a = (a.natAbs : Int) := by omega
    have e2 : b = -(b.natAbs : Int) := by omega
    generalize a.natAbs = m at *
    generalize b.natAbs = n at *
    subst e1; subst e2
    rw [Int.tdiv_neg, Int.tdiv_eq_ediv_of_nonneg (by omega)]
  · have e1 : a = (a.natAbs : Int) := by omega
    have e2 : b = (b.natAbs : Int) := by omega
    generalize a.natAbs = m at *
    generalize b.natAbs = n at *
    subst e1; subst e2
    rw [Int.tdiv_eq_ediv_of_nonneg (by omega)]
theorem rem_sign (a b : Int) : a.tmod b = if a < 0 then -((a.natAbs : Int) % b.natAbs) else (a.natAbs : Int) % b.natAbs := by
  by_cases h1 : a < 0 <;> by_cases h2 : b < 0 <;> simp [h1]
  · have e1 : a = -(a.natAbs : Int) := by omega
    have e2 : b = -(b.natAbs : Int) := by omega
    generalize a.natAbs = m at *
    generalize b.natAbs = n at *
    subst e1; subst e2
    rw [Int.neg_tmod, Int.tmod_neg, Int.tmod_eq_emod_of_nonneg (by omega)]
  · have e1 : a = -(a.natAbs : Int) := by omega
    have e2 : b = (b.natAbs : Int) := by omega
    generalize a.natAbs = m at *
    generalize b.natAbs = n at *
    subst e1; subst e2
    rw [Int.neg_tmod, Int.tmod_eq_emod_of_nonneg (by omega)]
  · have e1 : a = (a.natAbs : Int) := by omega
    have e2 : b = -(b.natAbs : Int) := by omega
    generalize a.natAbs = m at *
    generalize b.natAbs = n at *
    subst e1; subst e2
    rw [Int.tmod_neg, Int.tmod_eq_emod_of_nonneg (by omega)]
  · have e1 : a = (a.natAbs : Int) := by omega
    have e2 : b = (b.natAbs : Int) := by omega
    generalize a.natAbs = m at *
    generalize b.natAbs = n at *
    subst e1; subst e2
    rw [Int.tmod_eq_emod_of_nonneg (by omega)]
theorem tmod_in {a b : Int} (ha : In64 a) (hb : b ≠ 0) : In64 (a.tmod b) := by
  rw [rem_sign]
  unfold In64 at *
  have h1 := Int.emod_lt_of_pos (a.natAbs : Int) (show (0 : Int) < b.natAbs by omega)
  have h2 := Int.emod_nonneg (a.natAbs : Int) (show (b.natAbs : Int) ≠ 0 by omega)
  have h3 : (a.natAbs : Int) % b.natAbs ≤ a.natAbs := by
    have h4 := Int.mul_ediv_add_emod (a.natAbs : Int) b.natAbs
    have h5 := Int.ediv_nonneg (show (0 : Int) ≤ a.natAbs by omega) (show (0 : Int) ≤ b.natAbs by omega)
    have h6 := Int.mul_nonneg (show (0 : Int) ≤ b.natAbs by omega) h5
    omega
  split <;> omega
/-- The rest downwards, and the quotient downwards, from those towards 0. -/
theorem fmod_law {a b : Int} (hb : b ≠ 0) : a.fmod b = if a.tmod b ≠ 0 ∧ (a.tmod b < 0) ≠ (b < 0) then a.tmod b + b else a.tmod b := by
  rw [Int.fmod_eq_tmod]
  by_cases h : b ∣ a
  · have h0 : a.tmod b = 0 := Int.tmod_eq_zero_of_dvd h
    simp [h, h0]
  · have h0 : a.tmod b ≠ 0 := fun e => h (Int.dvd_of_tmod_eq_zero e)
    have h1 := rem_sign a b
    have h2 := Int.emod_nonneg (a.natAbs : Int) (show (b.natAbs : Int) ≠ 0 by omega)
    generalize (a.natAbs : Int) % b.natAbs = m at *
    by_cases ha : a < 0 <;> by_cases hb' : b < 0 <;> simp [ha] at h1 <;> simp [h, h0] <;> (repeat' split) <;> omega
theorem quo_bound {a b : Int} (ha : In64 a) (hb : b ≠ 0) : (b = -1 ∧ a.tdiv b = -a) ∨ (b = 1 ∧ a.tdiv b = a) ∨ (-4611686018427387904 ≤ a.tdiv b ∧ a.tdiv b ≤ 4611686018427387904) := by
  by_cases h1 : b = 1
  · subst h1; exact .inr (.inl ⟨rfl, by simp⟩)
  by_cases h2 : b = -1
  · subst h2; exact .inl ⟨rfl, by simp [Int.tdiv_neg]⟩
  right; right
  rw [quo_sign]
  unfold In64 at ha
  have h3 := Int.ediv_nonneg (show (0 : Int) ≤ a.natAbs by omega) (show (0 : Int) ≤ b.natAbs by omega)
  have h4 := Int.ediv_mul_le (a.natAbs : Int) (b := b.natAbs) (by omega)
  have h5 : (a.natAbs : Int) / b.natAbs * 2 ≤ (a.natAbs : Int) / b.natAbs * b.natAbs := Int.mul_le_mul_of_nonneg_left (by omega) h3
  split <;> omega
theorem fdiv_law {a b : Int} (hb : b ≠ 0) : a.fdiv b = if a.tmod b ≠ 0 ∧ (a.tmod b < 0) ≠ (b < 0) then a.tdiv b - 1 else a.tdiv b := by
  have h1 := Int.mul_fdiv_add_fmod a b
  have h2 := Int.mul_tdiv_add_tmod a b
  have h3 := fmod_law (a := a) hb
  split at h3
  · rename_i hc
    rw [if_pos hc]
    refine Int.eq_of_mul_eq_mul_left hb ?_
    rw [Int.mul_sub]; omega
  · rename_i hc
    rw [if_neg hc]
    refine Int.eq_of_mul_eq_mul_left hb ?_
    omega
theorem fdiv_in {a b : Int} (ha : In64 a) (hb : b ≠ 0) (h : In64 (a.tdiv b)) : In64 (a.fdiv b) := by
  rw [fdiv_law hb]
  split
  · rename_i hc
    rcases quo_bound ha hb with ⟨rfl, e⟩ | ⟨rfl, e⟩ | ⟨h1, h2⟩
    · exact absurd (by rw [Int.tmod_neg, Int.tmod_one]) hc.1
    · exact absurd (by rw [Int.tmod_one]) hc.1
    · exact ⟨by omega, by omega⟩
  · exact h
theorem fdiv_out {a b : Int} (ha : In64 a) (hb : b ≠ 0) (h : ¬ In64 (a.tdiv b)) : a = -9223372036854775808 ∧ b = -1 ∧ a.fdiv b = 9223372036854775808 ∧ a.tdiv b = 9223372036854775808 := by
  rcases quo_bound ha hb with ⟨rfl, e⟩ | ⟨rfl, e⟩ | ⟨h1, h2⟩
  · rw [e] at h
    have : a = -9223372036854775808 := by unfold In64 at *; omega
    subst this
    exact ⟨rfl, rfl, by decide, by decide⟩
  · rw [e] at h; exact absurd ha h
  · exact absurd ⟨by omega, by omega⟩ h
theorem fitZ_fdiv {a b : Int} (ha : In64 a) (hb : b ≠ 0) : fitZ (a.fdiv b) = if In64 (a.tdiv b) then (a.fdiv b, 0) else (0, 11) := by
  split
  · rename_i h; exact fitZ_in (fdiv_in ha hb h)
  · rename_i h
    obtain ⟨_, _, e, _⟩ := fdiv_out ha hb h
    rw [e]; exact fitZ_out (by decide)
/-- What two numbers come to, by an operator's name. -/
def powZ (a b : Int) : Int × Int :=
  if a = 1 then (1, 0) else if a = -1 then (1 - 2 * (b % 2), 0) else if a = 0 ∧ 0 < b then (0, 0) else if a = 0 ∧ b < 0 then (0, 10) else if b < 0 ∨ 63 < b then (0, 11) else fitZ (a ^ b.toNat)
def leftZ (a b : Int) : Int × Int := if b < 0 ∨ 63 < b then (0, 11) else fitZ (a * 2 ^ b.toNat)
def rightZ (a b : Int) : Int × Int := if b < 0 then (0, 11) else (a.fdiv (2 ^ (min b 63).toNat), 0)
def quoZ (a b : Int) : Int × Int := if b = 0 then (0, 10) else fitZ (a.tdiv b)
def remZ (a b : Int) : Int × Int := if b = 0 then (0, 10) else (a.tmod b, 0)
def modZ (a b : Int) : Int × Int := if b = 0 then (0, 10) else (a.fmod b, 0)
def divZ (a b : Int) : Int × Int := if b = 0 then (0, 10) else fitZ (a.fdiv b)
@[simp] theorem bytes_beqB (a b : ByteArray) : (a == b) = decide (a = b) := by
  rw [Bool.eq_iff_iff, bytes_beq_iff, decide_eq_true_iff]
end Go.Vm


/- The abstract machine, part 34: functions that defer calls; deferred functions that recover. -/
namespace Go.Vm
open Go
/-- How a function ends, where deferred calls are still to come. -/
inductive AMode where
  | returning
  | panicking (v : AV)
inductive ModeR (c : Cx) : AMode → FrameMode → Prop
  | returning : ModeR c .returning .returning
  | panicking {x v} (h : VR c x v) : ModeR c (.panicking x) (.panicking [{ v, recovered := false }])
theorem ModeR.mono {c c' : Cx} (hle : Le c c') {u : AMode} {m : FrameMode} (h : ModeR c u m) : ModeR c' u m := by
  cases h with
  | returning => exact .returning
  | panicking h => exact .panicking (h.mono hle)
/-- The mode behind a call that recovered. -/
def outMode : FrameMode → FrameMode
  | .panicking (e :: older) => .panicking ({ v := e.v, recovered := true } :: older)
  | m => m
/-- What a deferred call comes to; the word: has it recovered? -/
def ACallsD (P : Program) (f : FuncId) (args : List AV) (u : AMode) (h : AH) (K : ARes → Bool → AH → Prop) : Prop :=
  ∀ (c : Cx) (vs : Array Value) (um : FrameMode), Sim c h → VRs c args vs.toList → ModeR c u um →
    CallsD P f vs um c.w fun e u' w => ∃ c' h' r rec, c'.w = w ∧ Ext c h c' h' ∧ Sim c' h' ∧ ResR c' r e ∧ u' = (if rec = true then outMode um else um) ∧ K r rec h'
def AMode.behind (u : AMode) (rec : Bool) : AMode := if rec = true then .returning else u
/-- A function's end: the calls that are still deferred, and the results. -/
def EndsD (P : Program) (T : Tab) (F : FTab) (rs : List ResultVar) (K : ARes → AH → Prop) : List ADef → AMode → List AV → AH → Prop
  | [], .returning, tmps, h => aResults T tmps h rs fun l => K (.ret (resultOf l)) h
  | [], .panicking v, _, h => K (.pan v) h
  | d :: ds, u, tmps, h => match d.f with
    | .func g => (F g).isSome = true ∧ ACallsD P g (d.args ++ d.captured) u h fun r rec h' => (∃ v, r = .ret v) ∧ EndsD P T F rs K ds (u.behind rec) tmps h'
    | _ => False
section
variable {P : Program} {T : Tab} {F : FTab}
theorem settle_behind {c : Cx} {u : AMode} {um : FrameMode} (h : ModeR c u um) (rec : Bool) : ModeR c (u.behind rec) (settle (if rec = true then outMode um else um)) := by
  cases h with
  | returning => cases rec <;> exact .returning
  | panicking h => cases rec with
    | true => exact .returning
    | false => exact .panicking h
theorem resultOf_tuple {c : Cx} : ∀ {l : List AV} {us : List Value}, VRs c l us → VR c (resultOf l) (tupleOf us) := fun {l us} hl => by
  match l, us, hl with
  | [], [], hl => exact VR.of_tup hl
  | [x], [v], hl => exact hl.2 0 x v rfl rfl
  | x :: y :: l, v :: u :: us, hl => exact VR.of_tup hl
  | [], _ :: _, hl => exact absurd hl.1 (by simp)
  | [_], [], hl => exact absurd hl.1 (by simp)
  | [_], _ :: _ :: _, hl => exact absurd hl.1 (by simp)
  | _ :: _ :: _, [], hl => exact absurd hl.1 (by simp)
  | _ :: _ :: _, [_], hl => exact absurd hl.1 (by simp)
theorem leaves_of_ends (hT : T.OK P) (hF : F.OK P) {fn : Func} {fi : FnI} (hr : fn.results.toList = fi.results) {K : ARes → AH → Prop} {c0 : Cx} {h0 : AH} :
    ∀ {ds : List ADef} {u : AMode} {tmps : List AV} {h : AH} {Ds : List Deferred} {um : FrameMode} {vt : Array Value} {c : Cx},
      Ext c0 h0 c h → Sim c h → DefsR c ds Ds → ModeR c u um → VRs c tmps vt.toList → EndsD P T F fi.results K ds u tmps h →
      Leaves P fn vt (fun e w => ∃ c' h' r, c'.w = w ∧ Ext c0 h0 c' h' ∧ Sim c' h' ∧ ResR c' r e ∧ K r h') Ds um c.w := by
  intro ds
  induction ds with
  | nil =>
    intro u tmps h Ds um vt c he hs hd hm ht hk
    cases hd
    cases hm with
    | returning =>
      obtain ⟨l, us, g1, g2, g3⟩ := aResults_run hT hs ht hk
      exact ⟨_, results_run hr g2, c, h, _, rfl, he, hs, .ret (resultOf_tuple g3), g1⟩
    | panicking hv => exact ⟨c, h, _, rfl, he, hs, .pan hv, hk⟩
  | cons d ds ih =>
    intro u tmps h Ds um vt c he hs hd hm ht hk
    cases hd with
    | @cons _ D _ Ds' h1 h2 =>
    obtain ⟨vs, e1, e2, e3⟩ := h1
    unfold EndsD at hk
    split at hk
    · rename_i g hg
      obtain ⟨k1, k2⟩ := hk
      obtain ⟨fi', hfi⟩ := Option.isSome_iff_exists.1 k1
      have hrun : um ≠ .run := by cases hm <;> simp
      have htar : D.target = .fn (.func g) vs := by rw [e1, hg]
      refine ⟨hrun, _, _, g, D.args ++ vs, htar, ?_, ?_⟩
      · rw [htar]; exact run_callFunc hF hfi c.w _
      · have hargs : VRs c (d.args ++ d.captured) (D.args ++ vs).toList := by
          rw [Array.toList_append]; exact e3.append e2
        refine (k2 c _ um hs hargs hm).mono fun e u' w ⟨c', h', r, rec, q1, q2, q3, q4, q5, ⟨x, q6⟩, q7⟩ => ?_
        subst q6; subst q1; subst q5
        cases q4 with
        | ret hx => exact ih (he.trans q2) q3 (h2.mono q2.le) (settle_behind (hm.mono q2.le) rec) (ht.mono q2.le) q7
    · exact hk.elim
/-- A function's end, where calls may have been deferred. -/
def EndsW (P : Program) (T : Tab) (F : FTab) (rs : List ResultVar) (K : ARes → AH → Prop) : AExit → AAct → AH → Prop
  | .pan v, a, h => EndsD P T F rs K a.defers (.panicking v) a.tmps h
  | _, a, h => EndsD P T F rs K a.defers .returning a.tmps h
theorem VRs.undefs (c : Cx) (n : Nat) : VRs c (List.replicate n AV.undef) (List.replicate n undef) := ⟨by simp, fun i x v a b => by
  have := List.mem_of_getElem? a
  have hb := List.mem_of_getElem? b
  rw [List.mem_replicate] at this hb
  rw [this.2, hb.2]; exact .undef⟩
theorem calls_of_stkD (hT : T.OK P) (hF : F.OK P) {f : FuncId} {fi : FnI} (hf : FnOK P f fi) {args : List AV} {h : AH} {K : ARes → AH → Prop}
    (hh : AStk P h [.code fi.body] ⟨args ++ List.replicate (fi.ntmps - args.length) .undef, []⟩ h (EndsW P T F fi.results K)) : ACalls P f args h K := by
  intro c vs hs hv
  obtain ⟨fn, h1, h2, h3, h4, _⟩ := hf.fn
  refine calls_of_wp_defers h1 h2 ?_
  have hlen : args.length = vs.size := by simpa using hv.1
  have ha : ActR c ⟨args ++ List.replicate (fi.ntmps - args.length) .undef, []⟩ { tmps := vs ++ Array.replicate (fn.ntmps - vs.size) undef, defers := [] } :=
    ⟨by simp only [Array.toList_append, Array.toList_replicate, h3, ← hlen]; exact hv.append (VRs.undefs c _), .nil⟩
  have := hh c c _ hs.dom (Ext.refl c h) hs ha
  simp only [runsTo] at this
  refine wp_mono this fun e act w hq => ?_
  obtain ⟨c', h', a', e', q1, q2, q3, q4, q5, q6⟩ := hq
  subst q1
  cases q5 with
  | norm => exact leaves_of_ends hT hF h4 q2 q3 q4.defers .returning q4.tmps q6
  | ret => exact leaves_of_ends hT hF h4 q2 q3 q4.defers .returning q4.tmps q6
  | pan hx => exact leaves_of_ends hT hF h4 q2 q3 q4.defers (.panicking hx) q4.tmps q6
theorem calls_treeD (n : Nat) {f : FuncId} {fi : FnI} (hf : fnOf P f = some fi) {args : List AV} {h : AH} {K : ARes → AH → Prop} (hl : args.length ≤ fi.ntmps)
    (hh : run P (tabOf P) (fnOf P) h (EndsW P (tabOf P) (fnOf P) fi.results K) n [.code fi.body] ⟨toL fi.ntmps (ofL args 0 (.e .undef)), []⟩ h) : ACalls P f args h K := by
  refine calls_of_stkD (tabOf_ok P) (fnOf_ok P) (fnOf_ok P _ _ hf) ?_
  rw [toL_args hl]
  exact run_sound (tabOf_ok P) (fnOf_ok P) n _ _ _ hh
/-- The operation is 'recover()'. -/
structure IsRec (o : Oper) : Prop where
  guard : o.guard = none
  op : ∃ ts, o.op = .call { callee := .builtin .recover, args := #[], argTypes := ts }
theorem IsRec.run {o : Oper} (ho : IsRec o) (ρ : Operand → Value) (w : World) : (execOp ρ o).run P w = .ok .recover w := by
  obtain ⟨ts, h2⟩ := ho.op
  unfold execOp
  rw [h2]
  simp [resolve, invoke, builtin, Sem.run]
theorem wpOpsS_of_opsL {all : Array Oper} {Q : Exit → Act → World → Prop} {Q2 : Exit → Act → List Frame → World → Prop} {cs : List Frame} (hq : ∀ e a w, Q e a w → Q2 e a cs w) :
    ∀ (l : List Oper) (k : Nat) (a : Act) (w : World), (∀ j, l[j]? = all[k + j]?) → opsL P all Q l a w → wpOpsS P all Q2 (List.range' k l.length) a cs w := by
  intro l
  induction l with
  | nil => intro k a w _ h; exact hq _ _ _ h
  | cons o l ih =>
    intro k a w hl h
    have ho : all[k]? = some o := by have := hl 0; simpa using this.symm
    have hl' : ∀ j, l[j]? = all[k + 1 + j]? := fun j => by have := hl (j + 1); simpa [Nat.add_assoc, Nat.add_comm 1 j] using this
    simp only [List.length_cons, List.range'_succ, wpOpsS, ho]
    simp only [opsL] at h
    by_cases hw : Region.wanted o (yielded all a.tmps) = true
    · simp only [hw, if_true] at h ⊢
      have h2 : o.wp P a w (fun a' w' => wpOpsS P all Q2 (List.range' (k + 1) l.length) a' cs w') (fun e a' w' => Q2 e a' cs w') :=
        Oper.wp_mono2 (fun a' w' hh => ih (k + 1) a' w' hl' hh) (fun e a' w' hh => hq e a' w' hh) h
      unfold Oper.wp at h2
      split
      · rename_i w' hr
        rw [hr] at h2; exact h2.elim
      · exact h2
    · simp only [hw, if_false, Bool.false_eq_true] at h ⊢
      exact ih (k + 1) _ w hl' h
/-- A deferred function's end. -/
def EndsR (T : Tab) (rs : List ResultVar) (rec : Bool) (K : ARes → Bool → AH → Prop) : AExit → AAct → AH → Prop
  | .pan v, a, h => a.defers = [] ∧ K (.pan v) rec h
  | _, a, h => a.defers = [] ∧ aResults T a.tmps h rs fun l => K (.ret (resultOf l)) rec h
/-- What 'recover()' yields there. -/
@[simp] def AMode.got : AMode → AV
  | .returning => .nili
  | .panicking v => v
@[simp] def AMode.bad : AMode → Bool
  | .returning => false
  | .panicking _ => true
theorem callsD_rec (hT : T.OK P) {f : FuncId} {fi : FnI} (hf : FnOK P f fi) {i : Nat} {all : Array Oper} {rest : Code} {o : Oper} (hb : fi.body = .seq (.region i all false) rest) (ho : all[0]? = some o) (hrec : IsRec o)
    {args : List AV} {u : AMode} {h : AH} {K : ARes → Bool → AH → Prop}
    (hh : AStk P h [.ops all (all.toList.drop 1), .code rest] (AAct.put ⟨args ++ List.replicate (fi.ntmps - args.length) .undef, []⟩ o.dst u.got) h (EndsR T fi.results u.bad K)) : ACallsD P f args u h K := by
  intro c vs um hs hv hm
  obtain ⟨fn, h1, h2, h3, h4, _⟩ := hf.fn
  refine callsD_of_wpS h1 h2 ?_
  intro c₀ cs hc0
  have hlen : args.length = vs.size := by simpa using hv.1
  have ha : ActR c ⟨args ++ List.replicate (fi.ntmps - args.length) .undef, []⟩ { tmps := vs ++ Array.replicate (fn.ntmps - vs.size) undef, defers := [] } :=
    ⟨by simp only [Array.toList_append, Array.toList_replicate, h3, ← hlen]; exact hv.append (VRs.undefs c _), .nil⟩
  rw [hb]
  refine wpS_seq (wpS_region ?_)
  have hsz : all.size = all.toList.length - 1 + 1 := by
    have := (Array.getElem?_eq_some_iff.1 ho).1
    simp; omega
  rw [hsz, List.range_eq_range', List.range'_succ]
  simp only [wpOpsS, ho, Region.wanted, hrec.guard, if_true, hrec.run]
  have hend : ∀ (m : FrameMode) (v : Value), VR c u.got v → m = (if u.bad = true then outMode um else um) →
      wpOpsS P all (Exit.thenS (rest.wpS P (bodyPostS P fn c₀ cs fun e u' w => ∃ c' h' r rec, c'.w = w ∧ Ext c h c' h' ∧ Sim c' h' ∧ ResR c' r e ∧ u' = (if rec = true then outMode um else um) ∧ K r rec h')) (bodyPostS P fn c₀ cs fun e u' w => ∃ c' h' r rec, c'.w = w ∧ Ext c h c' h' ∧ Sim c' h' ∧ ResR c' r e ∧ u' = (if rec = true then outMode um else um) ∧ K r rec h'))
        (List.range' (0 + 1) (all.toList.length - 1)) (Act.put { tmps := vs ++ Array.replicate (fn.ntmps - vs.size) undef, defers := [] } o.dst v) ({ c₀ with mode := m } :: cs) c.w := by
    intro m v hgot hmm
    have hst := hh c c _ hs.dom (Ext.refl c h) hs (ha.put o.dst hgot)
    simp only [runsTo] at hst
    have hl1 : all.toList.length - 1 = (all.toList.drop 1).length := by simp
    rw [hl1]
    refine wpOpsS_of_opsL ?_ (all.toList.drop 1) (0 + 1) _ _ (fun j => by simp [List.getElem?_drop, Nat.add_comm]) hst
    have hfin : ∀ e a w, QL c h (EndsR T fi.results u.bad K) e a w → bodyPostS P fn c₀ cs (fun e u' w => ∃ c' h' r rec, c'.w = w ∧ Ext c h c' h' ∧ Sim c' h' ∧ ResR c' r e ∧ u' = (if rec = true then outMode um else um) ∧ K r rec h') e a ({ c₀ with mode := m } :: cs) w := by
      intro e a w hq
      obtain ⟨c', h', a', e', q1, q2, q3, q4, q5, q6⟩ := hq
      subst q1
      have hnil : a'.defers = [] → a.defers = [] := fun hd => by
        have hdd := q4.defers
        rw [hd] at hdd
        generalize a.defers = dd at hdd
        cases hdd; rfl
      cases q5 with
      | norm =>
        obtain ⟨g0, g1⟩ := q6
        obtain ⟨l, us, g1, g2, g3⟩ := aResults_run hT q3 q4.tmps g1
        exact ⟨hnil g0, m, rfl, _, results_run h4 g2, c', h', _, u.bad, rfl, q2, q3, .ret (resultOf_tuple g3), hmm, g1⟩
      | ret =>
        obtain ⟨g0, g1⟩ := q6
        obtain ⟨l, us, g1, g2, g3⟩ := aResults_run hT q3 q4.tmps g1
        exact ⟨hnil g0, m, rfl, _, results_run h4 g2, c', h', _, u.bad, rfl, q2, q3, .ret (resultOf_tuple g3), hmm, g1⟩
      | pan hx =>
        obtain ⟨g0, g1⟩ := q6
        exact ⟨hnil g0, m, rfl, c', h', _, u.bad, rfl, q2, q3, .pan hx, hmm, g1⟩
    intro e a w hq
    cases e with
    | normal => exact wpS_of_wp (wp_mono hq fun e a w hq => hfin e a w hq)
    | exit id => exact hfin _ _ _ hq
    | goto l => exact hfin _ _ _ hq
    | ret => exact hfin _ _ _ hq
    | panic ch => exact hfin _ _ _ hq
    | outgrown => exact hfin _ _ _ hq
  cases hm with
  | returning =>
    have hr : recoverD (c₀ :: cs) = none := by simp [recoverD, hc0]
    rw [hr]
    have := hend .returning .nilIface .nili rfl
    rwa [show ({ c₀ with mode := .returning } : Frame) = c₀ by rw [← hc0]] at this
  | panicking hx =>
    rename_i x v
    have hr : recoverD (c₀ :: cs) = some (v, { c₀ with mode := .panicking [{ v, recovered := true }] } :: cs) := by simp [recoverD, hc0]
    rw [hr]
    exact hend _ v hx rfl
end
/-- A call that panics, of which all is known without any block. -/
theorem ACalls.panW {P : Program} {f : FuncId} {args args' : List AV} {h : AH} {K : ARes → AH → Prop} {x : AV} (h3 : ACalls P f args' [] (fun r _ => r = .pan x)) (hw : WkL args args') (h1 : ∀ y ∈ args', Closed y) (h2 : Closed x) (h4 : K (.pan x) h) : ACalls P f args h K :=
  ACalls.argsWk args' hw (ACalls.frame h1 h3 fun r _ e => by subst e; exact ⟨h2, h4⟩)
/-- Where the result is known, be it a value or a panic. -/
theorem ACalls.resW {P : Program} {f : FuncId} {args args' : List AV} {h : AH} {K : ARes → AH → Prop} {r0 : ARes} (h3 : ACalls P f args' [] (fun r _ => r = r0)) (hw : WkL args args') (h1 : ∀ y ∈ args', Closed y) (h2 : ResClosed r0) (h4 : K r0 h) : ACalls P f args h K :=
  ACalls.argsWk args' hw (ACalls.frame h1 h3 fun r _ e => by subst e; exact ⟨h2, h4⟩)
theorem callsD_tree {P : Program} (n : Nat) {f : FuncId} {fi : FnI} (hf : fnOf P f = some fi) {i : Nat} {all : Array Oper} {rest : Code} {o : Oper} {k : Tmp} (hb : fi.body = .seq (.region i all false) rest) (ho : all[0]? = some o) (hrec : IsRec o) (hd : o.dst = some k)
    {args : List AV} {u : AMode} {h : AH} {K : ARes → Bool → AH → Prop} (hl : args.length ≤ fi.ntmps)
    (hh : run P (tabOf P) (fnOf P) h (EndsR (tabOf P) fi.results u.bad K) n [.ops all (all.toList.drop 1), .code rest] ⟨toL fi.ntmps ((ofL args 0 (.e .undef)).set k u.got), []⟩ h) : ACallsD P f args u h K := by
  refine callsD_rec (tabOf_ok P) (fnOf_ok P _ _ hf) hb ho hrec ?_
  rw [hd, toL_args hl, put_toL]
  exact run_sound (tabOf_ok P) (fnOf_ok P) n _ _ _ hh
@[simp ↓] theorem EndsD_behind {P : Program} {T : Tab} {F : FTab} {rs : List ResultVar} {K : ARes → AH → Prop} {u : AMode} {rec : Bool} {tmps : List AV} {h : AH} :
    EndsD P T F rs K [] (u.behind rec) tmps h = if rec = true then EndsD P T F rs K [] .returning tmps h else EndsD P T F rs K [] u tmps h := by
  cases rec <;> simp [AMode.behind]
attribute [simp ↓] EndsW.eq_def EndsD.eq_1 EndsD.eq_2 EndsD.eq_3 EndsR.eq_def
theorem AV.Wk.iface {t : TypeId} {x y : AV} (h : AV.Wk x y) : AV.Wk (.iface t x) (.iface t y) := fun c v hv => by
  cases hv with
  | iface h1 => exact .iface (h c _ h1)
@[simp] theorem wk_iface {t : TypeId} {x y : AV} (h : AV.Wk x y) : AV.Wk (.iface t x) (.iface t y) := AV.Wk.iface h
theorem Tn.wkPan {x y : AV} {h : AH} (hw : AV.Wk x y) : Tn (fun r _ => r = .pan y) (.pan x) h := .wk (.pan y) (.pan hw) (.done rfl)
attribute [simp] wrap64
/-- Numbers of 64 bits, all through. -/
inductive InR : Tm → Prop
  | mk (t : Tm) (h1 : In64 t.n) (h2 : ∀ u ∈ t.args, InR u) : InR t
end Go.Vm


/- The abstract machine, part 35: regions that draw their order, with one effect on some blocks: a call or a store. -/
namespace Go.Vm
open Go
section
variable {P : Program} {T : Tab} {F : FTab} {all : Array Oper} {p : Nat}
theorem draw_runG (hT : T.OK P) (hF : F.OK P) (hL : Lex all p) {a0 : AAct} {h0 hb : AH} {vs : List (AV × Option AB)} {k : List It} {K : AExit → AAct → AH → Prop} (hvl : vs.length = p) {ids : List Nat} {hf1 : AH} {e : Nat} {oe : Oper} {x0 : AV} (hnd : ids.Nodup) (hid : ∀ i ∈ ids, i < h0.length)
    (hep : e < p) (hoe : all[e]? = some oe) (hE1 : OnA all oe (puts ((all.toList.take p).take e) (vs.take e) a0) true) (hidl : ids.length ≤ hf1.length) (hve : vs[e]? = some (x0, none))
    (hEff : ∀ (c : Cx) (act : Act) (tl : List AV) (g : AH) (next : Act → World → Prop) (Q : Exit → Act → World → Prop), ActR c ⟨tl, a0.defers⟩ act → (∀ t ∈ oe.looksAt all, tl[t]? = (puts ((all.toList.take p).take e) (vs.take e) a0).tmps[t]?) → Sim c g → (∀ i ∈ ids, g.getD i .dead = h0.getD i .dead) → (∀ i ∈ ids, i < g.length) →
      (∀ (c' : Cx) (v : Value), Ext c g c' (AH.back g ids hf1) → Sim c' (AH.back g ids hf1) → VR c' x0 v → (∀ i, i < g.length → i ∉ ids → c'.φ i = c.φ i) → next (act.put oe.dst v) c'.w) → oe.wp P act c.w next Q)
    (hst : ∀ (i : Nat) (o : Oper) (x : AV) (b : Option AB), i ≠ e → (all.toList.take p)[i]? = some o → vs[i]? = some (x, b) → QStep P T F all o (puts ((all.toList.take p).take i) (vs.take i) a0) (kills h0 ids ++ newsL (vs.take i)) x b)
    (hK : AStk P hb (.ops all (all.toList.drop p) :: k) (puts (all.toList.take p) vs a0) (AH.back (h0 ++ newsL vs) ids hf1) K) {c00 : Cx} (hd0 : ∀ i, hb.length ≤ i → c00.φ i = none) :
    ∀ (fuel : Nat) (listed : Array Bool) (c : Cx) (act : Act) (tl : List AV) (g : AH), listed.size = all.size → (∀ i o, all[i]? = some o → DoneL listed i → ∀ d ∈ depsOf o, DoneL listed d) → (∀ i, DoneL listed i → i < p) →
      Cur (all.toList.take p) vs a0.tmps (DoneL listed) tl → ActR c ⟨tl, a0.defers⟩ act → HeapE h0 vs ids hf1 e (DoneL listed) g c.φ → Sim c g → Ext c00 hb c g → all.size ≤ fuel + (List.range p).countP (fun i => listed.getD i false) →
      wpAny P .any all (runsTo P (QL c00 hb K) k) fuel listed act c.w := by
  have hple := hL.le
  have hll : (all.toList.take p).length = p := by simp; omega
  have hget : ∀ (i : Nat) (o : Oper), (all.toList.take p)[i]? = some o → i < p ∧ all[i]? = some o := fun i o e => by
    have h1 := (List.getElem?_eq_some_iff.1 e).1
    rw [hll] at h1
    rw [List.getElem?_take_of_lt h1] at e
    exact ⟨h1, by simpa using e⟩
  have honce : ∀ (i j : Nat) (x y : Oper) (d : Tmp), i ≠ j → (all.toList.take p)[i]? = some x → (all.toList.take p)[j]? = some y → y.dst = some d → x.dst ≠ some d := fun i j x y d hne hx hy hd =>
    hL.once i j x y d (hget i x hx).1 (hget j y hy).1 hne (hget i x hx).2 (hget j y hy).2 hd
  have hvl' : vs.length = (all.toList.take p).length := by rw [hll]; exact hvl
  intro fuel
  induction fuel with
  | zero =>
    intro listed c act tl g hsz hcl hlt hcur ha hh hs hext hf
    have hcnt : (List.range p).countP (fun i => listed.getD i false) ≤ p := by
      have := List.countP_le_length (p := fun i => listed.getD i false) (l := List.range p)
      simpa using this
    have hall : ∀ i, i < p → DoneL listed i := by
      have : (List.range p).countP (fun i => listed.getD i false) = (List.range p).length := by simp only [List.length_range]; omega
      rw [List.countP_eq_length] at this
      exact fun i hi => this i (List.mem_range.2 hi)
    have hg : g = AH.back (h0 ++ newsL vs) ids hf1 := by
      obtain ⟨g0, q1, q2, _⟩ := hh
      rw [q2 (hall e hep), q1.full (fun i hi => hall i (by omega))]
    have htl : tl = (puts (all.toList.take p) vs a0).tmps := by
      have ht := cur_text hvl' honce (a := a0) p (by omega)
      rw [List.take_take, Nat.min_self, List.take_of_length_le (by omega : vs.length ≤ p)] at ht
      apply List.ext_getElem?
      intro t
      exact hcur.agree hvl' ht honce fun j o hj _ => ⟨fun h => hlt j h, fun h => hall j h⟩
    subst hg
    subst htl
    have := hK c00 c act hd0 hext hs ⟨ha.tmps, by rw [puts_defers]; exact ha.defers⟩
    exact wpAny_tail hL 0 p listed act c.w (Nat.le_refl _) hple hsz (fun i => ⟨hlt i, hall i⟩) (by omega) (by simpa only [runsTo] using this)
  | succ fuel ih =>
    intro listed c act tl g hsz hcl hlt hcur ha hh hs hext hf
    by_cases hall : ∀ i, i < p → DoneL listed i
    · have hg : g = AH.back (h0 ++ newsL vs) ids hf1 := by
        obtain ⟨g0, q1, q2, _⟩ := hh
        rw [q2 (hall e hep), q1.full (fun i hi => hall i (by omega))]
      have htl : tl = (puts (all.toList.take p) vs a0).tmps := by
        have ht := cur_text hvl' honce (a := a0) p (by omega)
        rw [List.take_take, Nat.min_self, List.take_of_length_le (by omega : vs.length ≤ p)] at ht
        apply List.ext_getElem?
        intro t
        exact hcur.agree hvl' ht honce fun j o hj _ => ⟨fun h => hlt j h, fun h => hall j h⟩
      subst hg
      subst htl
      have := hK c00 c act hd0 hext hs ⟨ha.tmps, by rw [puts_defers]; exact ha.defers⟩
      have hcnt : (List.range p).countP (fun i => listed.getD i false) ≤ p := by
        have := List.countP_le_length (p := fun i => listed.getD i false) (l := List.range p)
        simpa using this
      exact wpAny_tail hL (fuel + 1) p listed act c.w (Nat.le_refl _) hple hsz (fun i => ⟨hlt i, hall i⟩) (by omega) (by simpa only [runsTo] using this)
    · refine ⟨fun hr => ?_, fun i hi => ?_⟩
      · exfalso
        apply hall
        intro i
        induction i using Nat.strongRecOn with
        | ind i ihi =>
          intro hip
          apply Classical.byContradiction
          intro hnd
          have hin : i < all.size := by omega
          have : i ∈ Region.ready .any all listed := (ready_iff hsz).2 ⟨hnd, all[i], by simp [hin], fun d hd => by
            have := hL.edge i _ (by simp [hin]) d hd
            exact ihi d this (by omega)⟩
          rw [hr] at this; simp at this
      · obtain ⟨hnd0, o, ho, hdeps⟩ := (ready_iff hsz).1 hi
        have hin : i < all.size := (Array.getElem?_eq_some_iff.1 ho).1
        have hip : i < p := by
          rcases Nat.lt_or_ge i p with h' | h'
          · exact h'
          · exact absurd (fun j hj => (hL.tail j i h' hin (by omega)).ready hcl ho hdeps) hall
        have hol : (all.toList.take p)[i]? = some o := by rw [List.getElem?_take_of_lt hip]; simpa using ho
        have hvi : i < vs.length := by omega
        obtain ⟨x, b, hv⟩ : ∃ x b, vs[i]? = some (x, b) := ⟨vs[i].1, vs[i].2, List.getElem?_eq_getElem hvi⟩
        have hct := cur_text hvl' honce (a := a0) i (by omega)
        have hag : ∀ t ∈ o.looksAt all, tl[t]? = (puts ((all.toList.take p).take i) (vs.take i) a0).tmps[t]? := fun t ht =>
          hcur.agree hvl' hct honce fun j oj hj hd => by
            obtain ⟨hjp, hja⟩ := hget j oj hj
            by_cases hji : i = j
            · subst hji
              exact ⟨fun h => absurd h hnd0, fun h => absurd h (Nat.lt_irrefl i)⟩
            · obtain ⟨l1, l2⟩ := hL.looks i j o oj t hip hjp hji ho hja hd ht
              refine ⟨fun h => ?_, fun h => (l1 h).ready hcl ho hdeps⟩
              rcases Nat.lt_or_gt_of_ne hji with h' | h'
              · exact absurd ((l2 h').listed hcl h) hnd0
              · exact h'
        have hd' : ∀ j, DoneL (listed.setIfInBounds i true) j ↔ DoneL listed j ∨ j = i := fun j => getD_set (by omega)
        have hnext : ∀ (c' : Cx) (g' : AH) (v : Value), Le c c' → VR c' x v → HeapE h0 vs ids hf1 e (DoneL (listed.setIfInBounds i true)) g' c'.φ → Sim c' g' → Ext c00 hb c' g' →
            wpAny P .any all (runsTo P (QL c00 hb K) k) fuel (listed.setIfInBounds i true) (act.put o.dst v) c'.w := fun c' g' v hle hxv hh' hs' he' => by
          have hput := (ha.mono hle).put o.dst hxv
          have hdf : (AAct.put ⟨tl, a0.defers⟩ o.dst x).defers = a0.defers := by cases o.dst <;> rfl
          refine ih _ c' _ (AAct.put ⟨tl, a0.defers⟩ o.dst x).tmps g' (by simpa using hsz) (fun j oj hj hdj d hdd => ?_) (fun j hj => ?_) (hcur.step hvl' honce hol hv hd' rfl) ⟨hput.tmps, by rw [← hdf]; exact hput.defers⟩ hh' hs' he' ?_
          · rcases (hd' j).1 hdj with h' | h'
            · exact (hd' d).2 (.inl (hcl j oj hj h' d hdd))
            · subst h'; rw [ho] at hj; cases hj; exact (hd' d).2 (.inl (hdeps d hdd))
          · rcases (hd' j).1 hj with h' | h'
            · exact hlt j h'
            · omega
          · rw [cnt_set (f := fun i => listed.getD i false) (f' := fun j => (listed.setIfInBounds i true).getD j false) (by unfold DoneL at hnd0; simpa using hnd0) (fun j => ?_) hip]
            · omega
            · have := hd' j
              unfold DoneL at this
              rw [Bool.eq_iff_iff]
              simpa using this
        have hnd' := hnd0
        unfold wpOp
        rw [ho]
        simp only
        have hρ : ∀ y, VR c (ev tl y) (act.eval y) := fun y => ev_sound ha.tmps y
        by_cases hie : i = e
        · subst hie
          rw [hoe] at ho; cases ho
          rw [hve] at hv; cases hv
          have hon' : OnA all oe ⟨tl, a0.defers⟩ true := hE1.agree hag
          rw [if_pos (hon'.wanted ha)]
          refine .inl ?_
          obtain ⟨g0, q1, _, q3⟩ := hh
          have hgg := q3 hnd'
          subst hgg
          have hgetD : ∀ i ∈ ids, g.getD i .dead = h0.getD i .dead := fun i hi => by
            rw [List.getD_eq_getElem?_getD, List.getD_eq_getElem?_getD, q1.old i (hid i hi)]
          refine hEff c act tl g _ _ ha hag hs hgetD (fun i hi => by have := hid i hi; rw [q1.len]; simp; omega) fun c' v e4 e5 hv' e7 => ?_
          refine hnext c' _ _ e4.le hv' ⟨g, ⟨q1.len, q1.old, fun j y b ej hj => ?_, fun j y b ej hj => ?_⟩, fun _ => rfl, fun h => absurd ((hd' i).2 (.inr rfl)) h⟩ e5 (hext.trans e4)
          · rcases (hd' j).1 hj with h | h
            · exact q1.yes j y b ej h
            · subst h; rw [hve] at ej; cases ej
          · obtain ⟨n1, n2⟩ := q1.no j y b ej fun h => hj ((hd' j).2 (.inl h))
            have hlt : slotOf h0.length vs j < g.length := (List.getElem?_eq_some_iff.1 n1).1
            exact ⟨n1, by rw [e7 _ hlt (fun hm => by have := hid _ hm; unfold slotOf at this; omega)]; exact n2⟩
        have hq := hst i o x b hie hol hv
        generalize ha' : puts ((all.toList.take p).take i) (vs.take i) a0 = at' at hq hag
        cases hq with
        | off hon =>
          have hon' : OnA all o ⟨tl, a0.defers⟩ false := hon.agree hag
          rw [if_neg (by rw [hon'.wanted ha]; decide)]
          exact hnext c g undef (Le.refl c) .undef (hh.quiet hv hie hd') hs hext
        | quiet hon hq hk =>
          have hon' : OnA all o ⟨tl, a0.defers⟩ true := hon.agree hag
          rw [if_pos (hon'.wanted ha)]
          rw [aop_congr (fun y hy => (ev_agree hag y hy).symm)] at hk
          obtain ⟨v, h1, h2⟩ := aop_quiet_sound hT hq (hh.rd hnd hidl hid hs i) hρ hk
          refine .inl ?_
          unfold Oper.wp
          rw [h1]
          exact hnext c g v (Le.refl c) h2 (hh.quiet hv hie hd') hs hext
        | @row sz es hon hn hcl hk =>
          have hon' : OnA all o ⟨tl, a0.defers⟩ true := hon.agree hag
          rw [if_pos (hon'.wanted ha)]
          rw [aop_congr (fun y hy => (ev_agree hag y hy).symm)] at hk
          obtain ⟨b', nk', _, ⟨h1, h2⟩, _, h3⟩ := aop_new hT hn hk
          obtain ⟨ob, v, l, g1, g2, g3⟩ := h3 c act.eval hρ
          have hnk : nk' = .sl es.length := NK.inj (ANext.val.inj h1)
          have hbb : b' = .arr sz es false := by simpa using h2
          subst hnk
          subst hbb
          refine .inl ?_
          unfold Oper.wp
          rw [g2]
          obtain ⟨c', e1, e2, e3, e4, e5⟩ := hs.newRow g1 g3 hcl
          have := hnext c' g v e4.le e5 (by rw [e2]; exact hh.quiet hv hie hd') e3 (hext.trans e4)
          rw [e1] at this
          exact this
        | call hon hc hac hxc hk =>
          have hon' : OnA all o ⟨tl, a0.defers⟩ true := hon.agree hag
          rw [if_pos (hon'.wanted ha)]
          rw [callOf_congr (fun y hy => (ev_agree hag y hy).symm)] at hc
          obtain ⟨us, h1, h2⟩ := callOf_sound hF hρ hc
          refine .inl ?_
          unfold Oper.wp
          rw [h1]
          refine (hk.framed hac hxc hs h2).mono fun e w ⟨v, e1, c', e2, e3, e4, e5, e6⟩ => ?_
          subst e1
          subst e2
          exact hnext c' g v e4.le e6 (by rw [e3]; exact hh.quiet hv hie hd') e5 (hext.trans e4)
        | @new b nk hon hn hbl hk =>
          have hon' : OnA all o ⟨tl, a0.defers⟩ true := hon.agree hag
          rw [if_pos (hon'.wanted ha)]
          rw [aop_congr (fun y hy => (ev_agree hag y hy).symm)] at hk
          obtain ⟨b', nk', _, ⟨h1, h2⟩, _, h3⟩ := aop_new hT hn hk
          obtain ⟨ob, v, l, g1, g2, g3⟩ := h3 c act.eval hρ
          have hnk : nk' = nk := NK.inj (ANext.val.inj h1)
          have hbb : b' = b := by simpa using h2
          subst hnk
          subst hbb
          have hsl : (kills h0 ids ++ newsL (vs.take i)).length = slotOf h0.length vs i := by simp [slotOf, kills_length]
          refine .inl ?_
          unfold Oper.wp
          rw [g2]
          obtain ⟨g0, u1, u2, u3⟩ := hh
          obtain ⟨n1, n2⟩ := u1.no i _ b' hv hnd'
          have hslt : slotOf h0.length vs i < g0.length := (List.getElem?_eq_some_iff.1 n1).1
          have hsno : slotOf h0.length vs i ∉ ids := fun hm => by have := hid _ hm; unfold slotOf at this; omega
          have n1' : g[slotOf h0.length vs i]? = some .dead := by
            by_cases hde : DoneL listed e
            · rw [u2 hde, back_get hnd hidl hslt hsno]; exact n1
            · rw [u3 hde]; exact n1
          have hedone : DoneL (listed.setIfInBounds i true) e ↔ DoneL listed e := by rw [hd']; exact ⟨fun h => h.resolve_right (Ne.symm hie), .inl⟩
          obtain ⟨s1, s2⟩ := hs.newAt (o := ob) (b := b') (l := l) (w' := c.w.alloc ob) n1' n2 g1 rfl rfl rfl rfl fun hle hL0 => (g3 _ (slotOf h0.length vs i) hle rfl hL0 upd_same).1
          have hL0 : c.L l.b = 0 := by
            rcases Nat.eq_zero_or_pos (c.L l.b) with h' | h'
            · exact h'
            · have := hs.lock _ h'; omega
          refine hnext ⟨upd c.φ (slotOf h0.length vs i) l, c.L, c.w.alloc ob⟩ _ v s2.le ?_ ⟨_, u1.new hv hd', fun h => by rw [u2 (hedone.1 h), back_set hnd hidl hslt hsno], fun h => by rw [u3 fun h' => h (hedone.2 h')]⟩ s1 (hext.trans s2)
          rw [hsl]
          exact (g3 _ (slotOf h0.length vs i) s2.le rfl hL0 upd_same).2


/-- What an effect comes to, wherever it is carried out. -/
def EffOK (P : Program) (all : Array Oper) (oe : Oper) (ids : List Nat) (x0 : AV) (h0 hf1 : AH) (a : AAct) : Prop :=
  ∀ (c : Cx) (act : Act) (tl : List AV) (g : AH) (next : Act → World → Prop) (Q : Exit → Act → World → Prop), ActR c ⟨tl, a.defers⟩ act → (∀ t ∈ oe.looksAt all, tl[t]? = a.tmps[t]?) → Sim c g → (∀ i ∈ ids, g.getD i .dead = h0.getD i .dead) → (∀ i ∈ ids, i < g.length) →
    (∀ (c' : Cx) (v : Value), Ext c g c' (AH.back g ids hf1) → Sim c' (AH.back g ids hf1) → VR c' x0 v → (∀ i, i < g.length → i ∉ ids → c'.φ i = c.φ i) → next (act.put oe.dst v) c'.w) → oe.wp P act c.w next Q
/-- An effect, and what comes behind it. -/
def LaterG (P : Program) (T : Tab) (F : FTab) (all : Array Oper) (p e : Nat) (ids : List Nat) (x0 : AV) (hb h hf1 : AH) (k : List It) (K : AExit → AAct → AH → Prop) (a1 : AAct) (g1 : AH) : Prop :=
  OnA all (all.getD e default) a1 true ∧ EffOK P all (all.getD e default) ids x0 h hf1 a1 ∧ ids.length ≤ hf1.length ∧ qrun P T F all (LaterB P all p ids hb hf1 k K) ((all.toList.take p).drop (e + 1)) (a1.put (all.getD e default).dst x0) g1
/-- A region that draws its order, with one effect on some blocks: 'e' is its place. -/
theorem stk_drawG (hm : P.follows .mixedOrders = true) (hT : T.OK P) (hF : F.OK P) {i : Nat} {all : Array Oper} (p e : Nat) (hL : lexOK all p = true) {k : List It} {a : AAct} {hb h : AH} {K : AExit → AAct → AH → Prop}
    (ids : List Nat) (x0 : AV) (hf1 : AH) (hep : e < p) (hnd : ids.Nodup) (hid : ∀ i ∈ ids, i < h.length)
    (hq : qrun P T F all (LaterG P T F all p e ids x0 hb h hf1 k K) ((all.toList.take p).take e) a (kills h ids)) :
    AStk P hb (.code (.region i all true) :: k) a h K := by
  have hLex := lexOK_spec hL
  intro c0 c act hd0 he hs ha
  obtain ⟨vs1, hvs1⟩ := qrun_trace hT hq
  obtain ⟨h1, h2, h3⟩ := hvs1.at
  obtain ⟨hon, heff, hidl, q5⟩ := h2
  obtain ⟨vs2, hvs2⟩ := qrun_trace hT q5
  obtain ⟨g1, g2, g3⟩ := hvs2.at
  have hll : (all.toList.take p).length = p := by have := hLex.le; simp; omega
  have hl1 : ((all.toList.take p).take e).length = e := by rw [List.length_take, hll]; omega
  have hel : e < all.size := by have := hLex.le; omega
  have hoe : all[e]? = some (all.getD e default) := by simp [Array.getD, hel]
  have hmid : all.toList.take p = (all.toList.take p).take e ++ all.getD e default :: (all.toList.take p).drop (e + 1) := by
    conv => lhs; rw [← List.take_append_drop e (all.toList.take p)]
    congr 1
    rw [List.drop_eq_getElem_cons (by omega)]
    congr 1
    rw [List.getElem_take]
    have : all.getD e default = all[e] := by simp [Array.getD, hel]
    rw [this]; simp
  let vs := vs1 ++ (x0, none) :: vs2
  have hvlen : vs.length = p := by
    have hg : vs2.length = p - (e + 1) := by rw [g1, List.length_drop, hll]
    simp only [vs, List.length_append, List.length_cons, hg]
    rw [h1, hl1]; omega
  have hv1 : vs1.length = e := by rw [h1, hl1]
  have hte : vs.take e = vs1 := by simp only [vs]; rw [← hv1]; simp
  have hnone : ∀ i, ¬ DoneL (Array.replicate all.size false) i := fun i => by simp [DoneL, Array.getD]
  have hnews : newsL vs = newsL vs1 ++ newsL vs2 := by simp [vs, newsL]
  have hputs : puts (all.toList.take p) vs a = puts ((all.toList.take p).drop (e + 1)) vs2 ((puts ((all.toList.take p).take e) vs1 a).put (all.getD e default).dst x0) := by
    rw [hmid]
    simp only [vs]
    rw [puts_append _ _ _ _ _ h1]
    rw [← hmid]
    rfl
  refine wp_region_any hm ?_
  have hw : Ext c h ⟨c.φ, c.L, { c.w with drawn := c.w.drawn + 1 }⟩ h := ⟨⟨fun _ _ e => e, fun _ => Nat.le_refl _, fun _ _ _ => rfl⟩, Nat.le_refl _, fun _ _ _ => ⟨rfl, rfl⟩, fun _ h => .inr h, rfl, rfl, rfl⟩
  have hs' : Sim ⟨c.φ, c.L, { c.w with drawn := c.w.drawn + 1 }⟩ h := ⟨hs.dom, fun i b e1 e2 => by
    obtain ⟨l, f1, f2, f3⟩ := hs.blk i b e1 e2
    exact ⟨l, f1, f2, f3.mono hw.le rfl rfl⟩, hs.inj, hs.lock⟩
  obtain ⟨s1, s2⟩ := hs'.pad (newsL vs).length
  refine draw_runG hT hF hLex hvlen hnd hid hep hoe (by rw [hte]; exact hon) hidl (by simp only [vs]; rw [← hv1]; simp) (fun c act tl g next Q q1 q2 q3 q4 q5 q6 => heff c act tl g next Q (by rw [puts_defers]; exact q1) (fun t ht => by have := q2 t ht; rwa [hte] at this) q3 q4 q5 q6) (fun i o x b hie ho hv => ?_) ?_ hd0 all.size _ ⟨c.φ, c.L, { c.w with drawn := c.w.drawn + 1 }⟩ act a.tmps _ (by simp) (fun i o _ h => absurd h (hnone i)) (fun i h => absurd h (hnone i)) ⟨rfl, fun i o x b t _ _ h => absurd h (hnone i), fun t _ => rfl⟩ (ha.mono hw.le) ⟨_, HeapAt.start hs' vs hnone, fun h => absurd h (hnone e), fun _ => rfl⟩ s1 ((he.trans hw).trans s2) (by omega)
  · rcases Nat.lt_or_gt_of_ne hie with hlt | hgt
    · have hv' : vs1[i]? = some (x, b) := by simp only [vs] at hv; rwa [List.getElem?_append_left (by omega)] at hv
      have ho' : ((all.toList.take p).take e)[i]? = some o := by rw [List.getElem?_take_of_lt hlt]; exact ho
      have := h3 i o x b ho' hv'
      have ht : vs.take i = vs1.take i := by simp only [vs]; rw [List.take_append_of_le_length (by omega)]
      have ht2 : (all.toList.take p).take i = ((all.toList.take p).take e).take i := by
        have hh := @List.take_take _ i e (all.toList.take p)
        rw [hh, Nat.min_eq_left (by omega)]
      rw [ht, ht2]; exact this
    · obtain ⟨j, rfl⟩ : ∃ j, i = e + 1 + j := ⟨i - (e + 1), by omega⟩
      have hv' : vs2[j]? = some (x, b) := by
        simp only [vs] at hv
        rw [List.getElem?_append_right (by omega), hv1, show e + 1 + j - e = j + 1 by omega] at hv
        simpa using hv
      have ho' : ((all.toList.take p).drop (e + 1))[j]? = some o := by rw [List.getElem?_drop]; exact ho
      have := g3 j o x b ho' hv'
      have ht : vs.take (e + 1 + j) = vs1 ++ (x0, none) :: vs2.take j := by
        simp only [vs]
        rw [List.take_append, hv1, show e + 1 + j - e = j + 1 by omega, List.take_of_length_le (by omega)]
        simp
      have ht2 : (all.toList.take p).take (e + 1 + j) = (all.toList.take p).take e ++ all.getD e default :: ((all.toList.take p).drop (e + 1)).take j := by
        conv => lhs; rw [hmid]
        rw [List.take_append, hl1, show e + 1 + j - e = j + 1 by omega, List.take_of_length_le (by omega)]
        simp
      rw [ht, ht2, puts_append _ _ _ _ _ h1]
      have hn : newsL (vs1 ++ (x0, none) :: vs2.take j) = newsL vs1 ++ newsL (vs2.take j) := by simp [newsL]
      rw [hn, ← List.append_assoc]
      exact this
  · rw [hputs, hnews, ← List.append_assoc]
    have hbk : AH.back (h ++ newsL vs1 ++ newsL vs2) ids hf1 = AH.back (kills h ids ++ newsL vs1 ++ newsL vs2) ids hf1 := by
      refine back_congr hnd hidl (by simp [kills_length]) fun k hk hno => ?_
      rw [List.append_assoc, List.append_assoc]
      rcases Nat.lt_or_ge k h.length with hkl | hkl
      · rw [List.getElem?_append_left (l₁ := h) hkl, List.getElem?_append_left (l₁ := kills h ids) (by rw [kills_length]; exact hkl), kills_get ids h k hkl, if_neg hno]
      · rw [List.getElem?_append_right (l₁ := h) hkl, List.getElem?_append_right (l₁ := kills h ids) (by rw [kills_length]; exact hkl), kills_length]
    rw [hbk]
    exact g2

end
section
variable {P : Program} {T : Tab} {F : FTab} {all : Array Oper} {p : Nat}
theorem eff_store (hT : T.OK P) {oe : Oper} {t : TypeId} {x y : Operand} {id off : Nat} {ti : TyI} {xs cs : List AV} {h0 : AH} {a : AAct} (hop : oe.op = .store t x y) (hx : ev a.tmps x = .ptr id off) (ht : T t = some ti) (hcs : (ev a.tmps y).cells? = some xs)
    (hlen : xs.length = ti.size) (hid : h0.getD id .dead = .var cs) (hoff : off + xs.length ≤ cs.length) (hno : ∀ f, (setAt cs off xs).map (AV.sub f) = setAt cs off xs) : EffOK P all oe [id] .undef h0 [.var (setAt cs off xs)] a := by
  intro c act tl g next Q ha hag hs hg hlt hnext
  have hxm : x ∈ oe.op.operands := by rw [hop]; simp [Op.operands]
  have hym : y ∈ oe.op.operands := by rw [hop]; simp [Op.operands]
  have hx' : ev tl x = .ptr id off := by rw [ev_agree hag x hxm]; exact hx
  have hy' : (ev tl y).cells? = some xs := by rw [ev_agree hag y hym]; exact hcs
  have hρ : ∀ y, VR c (ev tl y) (act.eval y) := fun y => ev_sound ha.tmps y
  have hgid : g[id]? = some (.var cs) := by
    have h1 := hg id (by simp)
    have h2 := hlt id (by simp)
    rw [hid, List.getD_eq_getElem?_getD, List.getElem?_eq_getElem h2] at h1
    rw [List.getElem?_eq_getElem h2]
    simpa using h1
  have hst : aStore T t (ev tl x) (ev tl y) g (fun h' => h' = g.set id (.var (setAt cs off xs))) := by
    unfold aStore
    rw [ht, hy', hx']
    simp only [hlen, if_true, hgid]
    rw [if_pos (by omega)]
    trivial
  obtain ⟨h', c', rfl, e1, e2, e3, e4⟩ := aStore_keeps hT hs (hρ x) (hρ y) hst
  have hback : AH.back g [id] [.var (setAt cs off xs)] = g.set id (.var (setAt cs off xs)) := by
    have e1 : AB.sub (out [id] g.length) (.var (setAt cs off xs)) = .var (setAt cs off xs) := by simp only [AB.sub, hno]
    unfold AH.back
    simp only [List.map_cons, List.map_nil, e1, putB, List.length_cons, List.length_nil, List.drop_succ_cons, List.drop_nil, List.append_nil]
  unfold Oper.wp
  have hrun : (execOp act.eval oe).run P c.w = .ok .skip c'.w := by
    unfold execOp
    rw [hop]
    simp only [Sem.run_bind, e3]
    rfl
  rw [hrun]
  rw [hback] at hnext
  exact hnext c' undef e1 e2 .undef fun i _ _ => by rw [e4]
theorem LaterG.store (hT : T.OK P) {e : Nat} {hb h : AH} {k : List It} {K : AExit → AAct → AH → Prop} {a1 : AAct} {g1 : AH} {t : TypeId} {x y : Operand} {id off : Nat} {ti : TyI} {xs cs : List AV}
    (hon : OnA all (all.getD e default) a1 true) (hop : (all.getD e default).op = .store t x y) (hx : ev a1.tmps x = .ptr id off) (ht : T t = some ti) (hcs : (ev a1.tmps y).cells? = some xs)
    (hlen : xs.length = ti.size) (hid : h.getD id .dead = .var cs) (hoff : off + xs.length ≤ cs.length) (hno : ∀ f, (setAt cs off xs).map (AV.sub f) = setAt cs off xs)
    (h5 : qrun P T F all (LaterB P all p [id] hb [.var (setAt cs off xs)] k K) ((all.toList.take p).drop (e + 1)) (a1.put (all.getD e default).dst .undef) g1) :
    LaterG P T F all p e [id] .undef hb h [.var (setAt cs off xs)] k K a1 g1 :=
  ⟨hon, eff_store hT hop hx ht hcs hlen hid hoff hno, by simp, h5⟩
end
end Go.Vm
