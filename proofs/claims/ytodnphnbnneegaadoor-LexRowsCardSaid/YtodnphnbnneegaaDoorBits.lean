/- Words for bits and shifts; what they are on numbers. -/
import Derived.Test.YtodnphnbnneegaaDoorVL23
import Derived.Laws.BitsAllLaws
import Derived.Laws.Entries
set_option linter.unusedVariables false
set_option linter.unusedSimpArgs false
namespace Go.Proofs.YtodnphnbnneegaaDoor.VL
open Go.RowKit Go.Proofs

section
variable (t : TypeId) (k k' : IntKind) (u v : Int)
@[go_sem] theorem avBin_and : avBin .and t (.lit (.int k u)) (.lit (.int k v)) = some (.lit (.int k (bits .and k u v))) := by simp [avBin, binOp, intBits_and, p0, Pure.pure]
@[go_sem] theorem avBin_or : avBin .or t (.lit (.int k u)) (.lit (.int k v)) = some (.lit (.int k (bits .or k u v))) := by simp [avBin, binOp, intBits_or, p0, Pure.pure]
@[go_sem] theorem avBin_xor : avBin .xor t (.lit (.int k u)) (.lit (.int k v)) = some (.lit (.int k (bits .xor k u v))) := by simp [avBin, binOp, intBits_xor, p0, Pure.pure]
@[go_sem] theorem avBin_andNot : avBin .andNot t (.lit (.int k u)) (.lit (.int k v)) = some (.lit (.int k (bits .andNot k u v))) := by simp [avBin, binOp, intBits_andNot, p0, Pure.pure]
theorem avBin_shr (h0 : 0 ≤ v) (h1 : v ≤ k.bits) : avBin .shr t (.lit (.int k u)) (.lit (.int k' v)) = some (.lit (.int k (u / 2 ^ v.toNat))) := by simp [avBin, binOp, shift_shr k k' u v h0 h1, p0, Pure.pure]
theorem avBin_shl (h0 : 0 ≤ v) (h1 : v ≤ k.bits) : avBin .shl t (.lit (.int k u)) (.lit (.int k' v)) = some (.lit (.int k (k.wrap (u * 2 ^ v.toNat)))) := by simp [avBin, binOp, shift_shl k k' u v h0 h1, p0, Pure.pure]
@[go_sem] theorem avUn_xor : avUn .xor (.lit (.int k u)) = some (.lit (.int k (bits .xor k (if k.signed then -1 else k.max) u))) := by simp [avUn, Op.unary, intBits_xor, p0, Pure.pure]
end

theorem avMm_min2 (k : IntKind) (a b : Int) : avMm false [.lit (.int k a), .lit (.int k b)] = some (.lit (.int k (if b < a then b else a))) := by
  simp [avMm, aval.litOf, Builtin.min_, Builtin.min2, p0, Pure.pure, Bind.bind, Sem.bind]
theorem avMm_max2 (k : IntKind) (a b : Int) : avMm true [.lit (.int k a), .lit (.int k b)] = some (.lit (.int k (if a < b then b else a))) := by
  simp [avMm, aval.litOf, Builtin.max_, Builtin.max2, p0, Pure.pure, Bind.bind, Sem.bind]

/-! ### Numbers -/
theorem xor_max (x : Nat) (hx : x < 4294967296) : 4294967295 ^^^ x = 4294967295 - x := by
  apply Nat.eq_of_testBit_eq
  intro i
  have e : 4294967295 - x = 2 ^ 32 - (x + 1) := by omega
  rw [e, Nat.testBit_two_pow_sub_succ (by simpa using hx), Nat.testBit_xor, show (4294967295 : Nat) = 2 ^ 32 - 1 from rfl, Nat.testBit_two_pow_sub_one]
  by_cases hi : i < 32
  · simp [hi]
  · have : x.testBit i = false := Nat.testBit_lt_two_pow (Nat.lt_of_lt_of_le (show x < 2 ^ 32 from hx) (Nat.pow_le_pow_right (by decide) (by omega)))
    simp [hi, this]

theorem pow32_le (k : Nat) (hk : k ≤ 32) : 1 ≤ 2 ^ k ∧ 2 ^ k ≤ 4294967296 := ⟨Nat.one_le_two_pow, Nat.pow_le_pow_right (by decide) hk⟩

theorem and_high (a k : Nat) (ha : a < 4294967296) (hk : k ≤ 32) : a &&& (4294967296 - 2 ^ k) = a - a % 2 ^ k := by
  have hp := pow32_le k hk
  have e : a - a % 2 ^ k = (a >>> k) <<< k := by
    rw [Nat.shiftRight_eq_div_pow, Nat.shiftLeft_eq]
    have := Nat.div_add_mod a (2 ^ k)
    rw [Nat.mul_comm]
    omega
  rw [e]
  apply Nat.eq_of_testBit_eq
  intro i
  have e2 : 4294967296 - 2 ^ k = 2 ^ 32 - ((2 ^ k - 1) + 1) := by omega
  rw [e2, Nat.testBit_and, Nat.testBit_two_pow_sub_succ (show 2 ^ k - 1 < 2 ^ 32 by omega), Nat.testBit_two_pow_sub_one, Nat.testBit_shiftLeft, Nat.testBit_shiftRight]
  by_cases hi : i < 32
  · by_cases hki : k ≤ i
    · have : k + (i - k) = i := by omega
      simp [hi, hki, this]
    · simp [hi, hki, Nat.lt_of_not_le hki]
  · have : a.testBit i = false := Nat.testBit_lt_two_pow (Nat.lt_of_lt_of_le (show a < 2 ^ 32 from ha) (Nat.pow_le_pow_right (by decide) (by omega)))
    have hki : k ≤ i := by omega
    have e3 : k + (i - k) = i := by omega
    simp [hi, hki, this, e3]

/-- So many ones, from the highest bit on. -/
def mskN (n : Nat) : Nat := 4294967296 - 2 ^ (32 - n)
theorem mskN_lt (n : Nat) : mskN n < 4294967296 := by
  have := Nat.one_le_two_pow (n := 32 - n)
  unfold mskN
  omega
theorem u32_msk (a n : Nat) (ha : a < 4294967296) : bits .and .u32 (a : Int) (mskN n : Nat) = ((a - a % 2 ^ (32 - n) : Nat) : Int) := by
  rw [u32_and_nat a (mskN n) ha (mskN_lt n), mskN, and_high a _ ha (by omega)]
theorem u32_nmsk (a n : Nat) (ha : a < 4294967296) : bits .andNot .u32 (a : Int) (mskN n : Nat) = ((a % 2 ^ (32 - n) : Nat) : Int) := by
  rw [u32_andNot_nat a (mskN n) ha (mskN_lt n)]
  have hp := pow32_le (32 - n) (by omega)
  have e : 4294967295 - mskN n = 2 ^ (32 - n) - 1 := by unfold mskN; omega
  rw [e, Nat.and_two_pow_sub_one_eq_mod]

end Go.Proofs.YtodnphnbnneegaaDoor.VL
