/- addr: contracts. -/
import Derived.Test.YtodnphnbnneegaaDoorBits
import Derived.Test.YtodnphnbnneegaaDoorCode
import Derived.Test.YtodnphnbnneegaaDoorTxt
set_option linter.unusedVariables false
set_option linter.unusedSimpArgs false
set_option maxHeartbeats 4000000
namespace Go.Proofs.YtodnphnbnneegaaDoor.VL
open Go.RowKit Go.Proofs

/-- So many bits, held to 0 and 32. -/
def cl32 (b : Int) : Nat := if b < 0 then 0 else if 32 < b then 32 else b.toNat
theorem cl32_le (b : Int) : cl32 b ≤ 32 := by unfold cl32; split <;> (try split) <;> omega
theorem cl32_eq (b : Int) (h0 : 0 ≤ b) (h1 : b ≤ 32) : cl32 b = b.toNat := by unfold cl32; rw [if_neg (by omega), if_neg (by omega)]

theorem C_Mask (b : Int) : AC Tryd.prog f_addr_Mask [.lit (.int .i64 b)] (avU (mskN (cl32 b))) := by
  refine ac_addr_Mask ?_ (Nat.le_add_left 1 9)
  have hc := cl32_le b
  have e : (if (32 : Int) < (if b < 0 then 0 else b) then (32 : Int) else (if b < 0 then 0 else b)) = ((cl32 b : Nat) : Int) := by
    unfold cl32
    split <;> split <;> (try split) <;> omega
  have e2 := avBin_shr 23 .u32 .i64 4294967295 ((cl32 b : Nat) : Int) (by omega) (by simp [IntKind.bits]; omega)
  simp only [go_sem, Nat.reduceAdd, Nat.reduceLT, Nat.reduceEqDiff, Nat.reduceBEq, Nat.reduceLeDiff, Nat.reduceSub, Int.reduceToNat, reduceCtorEq, ↓reduceIte, c_addr_Mask, avMm_max2, avMm_min2, e, e2, avU]
  have hp := pow32_le (32 - cl32 b) (by omega)
  have e3 : (4294967295 : Int) / 2 ^ (((cl32 b : Nat) : Int).toNat) = ((2 ^ (32 - cl32 b) - 1 : Nat) : Int) := by
    rw [Int.toNat_natCast]
    have h1 : 2 ^ 32 = 2 ^ (cl32 b) * 2 ^ (32 - cl32 b) := by rw [← Nat.pow_add]; congr 1; omega
    have h2 : (4294967295 : Nat) / 2 ^ (cl32 b) = 2 ^ (32 - cl32 b) - 1 := by
      have hq := Nat.one_le_two_pow (n := cl32 b)
      rw [Nat.div_eq_iff (by omega)]
      constructor
      · have : (2 ^ (32 - cl32 b) - 1) * 2 ^ (cl32 b) = 2 ^ 32 - 2 ^ (cl32 b) := by rw [Nat.sub_mul, Nat.one_mul, Nat.mul_comm, ← h1]
        rw [this]
        have : (2 : Nat) ^ 32 = 4294967296 := rfl
        omega
      · have : (2 ^ (32 - cl32 b) - 1) * 2 ^ (cl32 b) = 2 ^ 32 - 2 ^ (cl32 b) := by rw [Nat.sub_mul, Nat.one_mul, Nat.mul_comm, ← h1]
        have : (2 : Nat) ^ 32 = 4294967296 := rfl
        have : 2 ^ (cl32 b) ≤ 2 ^ 32 := Nat.pow_le_pow_right (by decide) hc
        omega
    have h3 : ((4294967295 : Nat) : Int) / ((2 ^ (cl32 b) : Nat) : Int) = ((4294967295 / 2 ^ (cl32 b) : Nat) : Int) := (Int.natCast_ediv _ _).symm
    rw [h2] at h3
    rw [← h3]
    simp
  have e4 : bits .xor .u32 (if IntKind.u32.signed = true then -1 else IntKind.u32.max) ((2 ^ (32 - cl32 b) - 1 : Nat) : Int) = ((mskN (cl32 b) : Nat) : Int) := by
    have : (if IntKind.u32.signed = true then (-1 : Int) else IntKind.u32.max) = ((4294967295 : Nat) : Int) := by decide
    rw [this, u32_xor_nat _ _ (by decide) (by omega), xor_max _ (by omega)]
    unfold mskN
    congr 1
    omega
  rw [e3, e4]

def validN (a : Nat) (b : Int) : Bool := decide (0 ≤ b) && (decide (b ≤ 32) && decide (a % 2 ^ (32 - b.toNat) = 0))

theorem C_Valid (a : Nat) (b : Int) (ha : a < 4294967296) : AC Tryd.prog f_addr_Valid [avPfx a b] (.lit (.bool (validN a b))) := by
  refine ac_addr_Valid ?_ (Nat.le_add_left 1 19)
  by_cases h0 : 0 ≤ b
  · by_cases h1 : b ≤ 32
    · have e0 : decide (0 ≤ b) = true := by simpa using h0
      have e1 : decide (b ≤ 32) = true := by simpa using h1
      simp only [go_sem, Nat.reduceAdd, Nat.reduceLT, Nat.reduceEqDiff, Nat.reduceBEq, Nat.reduceLeDiff, Nat.reduceSub, Int.reduceToNat, reduceCtorEq, ↓reduceIte, c_addr_Valid, avPfx, avU, e0, e1]
      refine callX_of (C_Mask b) ?_
      simp only [go_sem, Nat.reduceAdd, Nat.reduceLT, Nat.reduceEqDiff, Nat.reduceBEq, Nat.reduceLeDiff, Nat.reduceSub, Int.reduceToNat, reduceCtorEq, ↓reduceIte, c_addr_Valid, avU, e0, e1, u32_nmsk a _ ha]
      rw [cl32_eq b h0 h1, nat_beq0]
      simp [validN, e0, e1]
    · have e0 : decide (0 ≤ b) = true := by simpa using h0
      have e1 : decide (b ≤ 32) = false := by simpa using h1
      simp only [go_sem, Nat.reduceAdd, Nat.reduceLT, Nat.reduceEqDiff, Nat.reduceBEq, Nat.reduceLeDiff, Nat.reduceSub, Int.reduceToNat, reduceCtorEq, ↓reduceIte, c_addr_Valid, avPfx, avU, e0, e1]
      simp [validN, e0, e1]
  · have e0 : decide (0 ≤ b) = false := by simpa using h0
    simp only [go_sem, Nat.reduceAdd, Nat.reduceLT, Nat.reduceEqDiff, Nat.reduceBEq, Nat.reduceLeDiff, Nat.reduceSub, Int.reduceToNat, reduceCtorEq, ↓reduceIte, c_addr_Valid, avPfx, avU, e0]
    simp [validN, e0]

def inN (p : Nat) (b : Int) (x : Nat) : Bool := validN p b && decide (x - x % 2 ^ (32 - b.toNat) = p)

theorem validN_bounds {a : Nat} {b : Int} (h : validN a b = true) : 0 ≤ b ∧ b ≤ 32 := by
  simp only [validN, Bool.and_eq_true, decide_eq_true_eq] at h
  exact ⟨h.1, h.2.1⟩

theorem C_In (p : Nat) (b : Int) (x : Nat) (hp : p < 4294967296) (hx : x < 4294967296) : AC Tryd.prog f_addr_In [avPfx p b, avU x] (.lit (.bool (inN p b x))) := by
  refine ac_addr_In ?_ (Nat.le_add_left 2 15)
  cases hv : validN p b with
  | false =>
    simp only [go_sem, Nat.reduceAdd, Nat.reduceLT, Nat.reduceEqDiff, Nat.reduceBEq, Nat.reduceLeDiff, Nat.reduceSub, Int.reduceToNat, reduceCtorEq, ↓reduceIte, c_addr_In, avPfx, avU]
    refine callX_of (C_Valid p b hp) ?_
    simp only [go_sem, Nat.reduceAdd, Nat.reduceLT, Nat.reduceEqDiff, Nat.reduceBEq, Nat.reduceLeDiff, Nat.reduceSub, Int.reduceToNat, reduceCtorEq, ↓reduceIte, hv]
    simp [inN, hv]
  | true =>
    obtain ⟨h0, h1⟩ := validN_bounds hv
    simp only [go_sem, Nat.reduceAdd, Nat.reduceLT, Nat.reduceEqDiff, Nat.reduceBEq, Nat.reduceLeDiff, Nat.reduceSub, Int.reduceToNat, reduceCtorEq, ↓reduceIte, c_addr_In, avPfx, avU]
    refine callX_of (C_Valid p b hp) ?_
    simp only [go_sem, Nat.reduceAdd, Nat.reduceLT, Nat.reduceEqDiff, Nat.reduceBEq, Nat.reduceLeDiff, Nat.reduceSub, Int.reduceToNat, reduceCtorEq, ↓reduceIte, hv]
    refine callX_of (C_Mask b) ?_
    simp only [go_sem, Nat.reduceAdd, Nat.reduceLT, Nat.reduceEqDiff, Nat.reduceBEq, Nat.reduceLeDiff, Nat.reduceSub, Int.reduceToNat, reduceCtorEq, ↓reduceIte, avU, u32_msk x _ hx]
    rw [cl32_eq b h0 h1, nat_beq]
    simp [inN, hv]

def withinN (p : Nat) (b : Int) (q : Nat) (c : Int) : Bool := validN p b && (decide (c ≤ b) && inN q c p)

theorem C_Within (p : Nat) (b : Int) (q : Nat) (c : Int) (hp : p < 4294967296) (hq : q < 4294967296) : AC Tryd.prog f_addr_Within [avPfx p b, avPfx q c] (.lit (.bool (withinN p b q c))) := by
  refine ac_addr_Within ?_ (Nat.le_add_left 2 18)
  cases hv : validN p b with
  | false =>
    simp only [go_sem, Nat.reduceAdd, Nat.reduceLT, Nat.reduceEqDiff, Nat.reduceBEq, Nat.reduceLeDiff, Nat.reduceSub, Int.reduceToNat, reduceCtorEq, ↓reduceIte, c_addr_Within, avPfx, avU]
    refine callX_of (C_Valid p b hp) ?_
    simp only [go_sem, Nat.reduceAdd, Nat.reduceLT, Nat.reduceEqDiff, Nat.reduceBEq, Nat.reduceLeDiff, Nat.reduceSub, Int.reduceToNat, reduceCtorEq, ↓reduceIte, hv]
    simp [withinN, hv]
  | true =>
    cases hc : decide (c ≤ b) with
    | false =>
      simp only [go_sem, Nat.reduceAdd, Nat.reduceLT, Nat.reduceEqDiff, Nat.reduceBEq, Nat.reduceLeDiff, Nat.reduceSub, Int.reduceToNat, reduceCtorEq, ↓reduceIte, c_addr_Within, avPfx, avU]
      refine callX_of (C_Valid p b hp) ?_
      simp only [go_sem, Nat.reduceAdd, Nat.reduceLT, Nat.reduceEqDiff, Nat.reduceBEq, Nat.reduceLeDiff, Nat.reduceSub, Int.reduceToNat, reduceCtorEq, ↓reduceIte, hv, hc]
      simp [withinN, hv, hc]
    | true =>
      simp only [go_sem, Nat.reduceAdd, Nat.reduceLT, Nat.reduceEqDiff, Nat.reduceBEq, Nat.reduceLeDiff, Nat.reduceSub, Int.reduceToNat, reduceCtorEq, ↓reduceIte, c_addr_Within, avPfx, avU]
      refine callX_of (C_Valid p b hp) ?_
      simp only [go_sem, Nat.reduceAdd, Nat.reduceLT, Nat.reduceEqDiff, Nat.reduceBEq, Nat.reduceLeDiff, Nat.reduceSub, Int.reduceToNat, reduceCtorEq, ↓reduceIte, hv, hc]
      refine callX_of (C_In q c p hq hp) ?_
      simp only [go_sem, Nat.reduceAdd, Nat.reduceLT, Nat.reduceEqDiff, Nat.reduceBEq, Nat.reduceLeDiff, Nat.reduceSub, Int.reduceToNat, reduceCtorEq, ↓reduceIte, hv, hc]
      simp [withinN, hv, hc]

/-! ### Bytes -/
def bytN (a i : Nat) : Nat := a / 2 ^ (8 * (3 - i)) % 256
def avBytes (b : Nat → Nat) : AV := .agg [avB (b 0), avB (b 1), avB (b 2), avB (b 3)]
def bytesTo (a : Nat) (k : Nat) : List AV := [avB (if 0 < k then bytN a 0 else 0), avB (if 1 < k then bytN a 1 else 0), avB (if 2 < k then bytN a 2 else 0), avB (if 3 < k then bytN a 3 else 0)]

theorem byte_wrap (a s : Nat) : IntKind.u8.wrap ((a : Int) / 2 ^ s) = ((a / 2 ^ s % 256 : Nat) : Int) := by
  rw [IntKind.wrap_u8]
  simp

theorem C_Bytes (a : Nat) (ha : a < 4294967296) : AC Tryd.prog f_addr_Bytes [avU a] (avBytes (bytN a)) := by
  refine ac_addr_Bytes ?_ (Nat.le_add_left 1 17)
  simp only [go_sem, Nat.reduceAdd, Nat.reduceLT, Nat.reduceEqDiff, Nat.reduceBEq, Nat.reduceLeDiff, Nat.reduceSub, Int.reduceToNat, reduceCtorEq, ↓reduceIte, c_addr_Bytes, avU]
  refine aw_loop (fun m E => ∃ k : Nat, k + m = 4 ∧ E = mkE [(0, avU a), (2, .lp 2 0), (3, .lp 3 0), (5, .lit (.int .i64 (k : Nat)))] [(2, [.lit (.int .u8 0), .lit (.int .u8 0), .lit (.int .u8 0), .lit (.int .u8 0)]), (3, bytesTo a k)]) 4 ?_ ?_
  · exact ⟨0, by omega, by simp only [go_sem, Nat.reduceAdd, Nat.reduceLT, Nat.reduceEqDiff, Nat.reduceBEq, Nat.reduceLeDiff, Nat.reduceSub, Int.reduceToNat, reduceCtorEq, ↓reduceIte]; rfl⟩
  · rintro m _ ⟨k, hk, rfl⟩
    have s0 := avBin_shr 23 .u32 .i64 (a : Int)
    have w24 := s0 24 (by decide) (by decide)
    have w16 := s0 16 (by decide) (by decide)
    have w8 := s0 8 (by decide) (by decide)
    have w0 := s0 0 (by decide) (by decide)
    have b24 := byte_wrap a 24
    have b16 := byte_wrap a 16
    have b8 := byte_wrap a 8
    have b0 := byte_wrap a 0
    match k, hk with
    | 0, hk =>
      simp only [go_sem, Nat.reduceAdd, Nat.reduceLT, Nat.reduceEqDiff, Nat.reduceBEq, Nat.reduceLeDiff, Nat.reduceSub, Int.reduceToNat, reduceCtorEq, ↓reduceIte, bytesTo, avU, avB, w24, b24, c0, c1, c2, c3, c4, Int.reduceSub, Int.reduceMul, Int.reduceAdd, Int.reduceLT, Int.reduceLE, Nat.reduceMul, decide_true, decide_false, v0, v1, v2, v3, v4, v8, v16, v24]
      exact ⟨m - 1, by omega, 1, by omega, rfl⟩
    | 1, hk =>
      simp only [go_sem, Nat.reduceAdd, Nat.reduceLT, Nat.reduceEqDiff, Nat.reduceBEq, Nat.reduceLeDiff, Nat.reduceSub, Int.reduceToNat, reduceCtorEq, ↓reduceIte, bytesTo, avU, avB, w16, b16, c0, c1, c2, c3, c4, Int.reduceSub, Int.reduceMul, Int.reduceAdd, Int.reduceLT, Int.reduceLE, Nat.reduceMul, decide_true, decide_false, v0, v1, v2, v3, v4, v8, v16, v24]
      exact ⟨m - 1, by omega, 2, by omega, rfl⟩
    | 2, hk =>
      simp only [go_sem, Nat.reduceAdd, Nat.reduceLT, Nat.reduceEqDiff, Nat.reduceBEq, Nat.reduceLeDiff, Nat.reduceSub, Int.reduceToNat, reduceCtorEq, ↓reduceIte, bytesTo, avU, avB, w8, b8, c0, c1, c2, c3, c4, Int.reduceSub, Int.reduceMul, Int.reduceAdd, Int.reduceLT, Int.reduceLE, Nat.reduceMul, decide_true, decide_false, v0, v1, v2, v3, v4, v8, v16, v24]
      exact ⟨m - 1, by omega, 3, by omega, rfl⟩
    | 3, hk =>
      simp only [go_sem, Nat.reduceAdd, Nat.reduceLT, Nat.reduceEqDiff, Nat.reduceBEq, Nat.reduceLeDiff, Nat.reduceSub, Int.reduceToNat, reduceCtorEq, ↓reduceIte, bytesTo, avU, avB, w0, b0, c0, c1, c2, c3, c4, Int.reduceSub, Int.reduceMul, Int.reduceAdd, Int.reduceLT, Int.reduceLE, Nat.reduceMul, decide_true, decide_false, v0, v1, v2, v3, v4, v8, v16, v24]
      exact ⟨m - 1, by omega, 4, by omega, rfl⟩
    | 4, hk =>
      simp only [go_sem, Nat.reduceAdd, Nat.reduceLT, Nat.reduceEqDiff, Nat.reduceBEq, Nat.reduceLeDiff, Nat.reduceSub, Int.reduceToNat, reduceCtorEq, ↓reduceIte, bytesTo, avBytes, avB, c0, c1, c2, c3, c4, Int.reduceSub, Int.reduceMul, Int.reduceAdd, Int.reduceLT, Int.reduceLE, Nat.reduceMul, decide_true, decide_false, v0, v1, v2, v3, v4, v8, v16, v24]
    | k + 5, hk => omega


/-! ### Of -/
def ofB (b : Nat → Nat) : Nat → Nat
  | 0 => 0
  | k + 1 => ofB b k * 256 + b k
theorem ofB_lt (b : Nat → Nat) : ∀ k, (∀ i, i < k → b i < 256) → ofB b k < 256 ^ k
  | 0, _ => by simp [ofB]
  | k + 1, h => by
    have h1 := ofB_lt b k fun i hi => h i (by omega)
    have h2 := h k (by omega)
    simp only [ofB, Nat.pow_succ]
    omega
theorem or_join (x b : Nat) (hx : x < 16777216) (hb : b < 256) : bits .or .u32 (IntKind.u32.wrap ((x : Int) * 2 ^ 8)) (IntKind.u32.wrap (b : Int)) = ((x * 256 + b : Nat) : Int) := by
  have e1 : IntKind.u32.wrap ((x : Int) * 2 ^ 8) = ((x * 256 : Nat) : Int) := by
    rw [IntKind.wrap_u32, show (2 : Int) ^ 8 = 256 from rfl]
    omega
  have e2 : IntKind.u32.wrap (b : Int) = ((b : Nat) : Int) := by rw [IntKind.wrap_u32]; omega
  rw [e1, e2, u32_or_nat _ _ (by omega) (by omega), nat_join 8 _ _ (by simp [Nat.mul_mod_left]) hb]

theorem C_Of (b : Nat → Nat) (hb : ∀ i, i < 4 → b i < 256) : AC Tryd.prog f_addr_Of [avBytes b] (avU (ofB b 4)) := by
  refine ac_addr_Of ?_ (Nat.le_add_left 1 16)
  simp only [go_sem, Nat.reduceAdd, Nat.reduceLT, Nat.reduceEqDiff, Nat.reduceBEq, Nat.reduceLeDiff, Nat.reduceSub, Int.reduceToNat, reduceCtorEq, ↓reduceIte, c_addr_Of, avBytes, avB]
  refine aw_loop (fun m E => ∃ k : Nat, k + m = 4 ∧ E = mkE [(3, avU (ofB b k)), (6, avBytes b), (7, .lit (.int .i64 (k : Nat)))] [(1, [avB (b 0), avB (b 1), avB (b 2), avB (b 3)])]) 4 ?_ ?_
  · exact ⟨0, by omega, by simp only [go_sem, Nat.reduceAdd, Nat.reduceLT, Nat.reduceEqDiff, Nat.reduceBEq, Nat.reduceLeDiff, Nat.reduceSub, Int.reduceToNat, reduceCtorEq, ↓reduceIte]; rfl⟩
  · rintro m _ ⟨k, hk, rfl⟩
    have hs := fun u => avBin_shl 23 .u32 .u64 u 8 (by decide) (by decide)
    match k, hk with
    | 0, hk =>
      have hj := or_join (ofB b 0) (b 0) (Nat.lt_of_lt_of_le (ofB_lt b 0 fun i hi => hb i (by omega)) (by decide)) (hb 0 (by decide))
      simp only [go_sem, Nat.reduceAdd, Nat.reduceLT, Nat.reduceEqDiff, Nat.reduceBEq, Nat.reduceLeDiff, Nat.reduceSub, Int.reduceToNat, reduceCtorEq, ↓reduceIte, avBytes, avU, avB, hs, hj, c0, c1, c2, c3, c4, Int.reduceSub, Int.reduceMul, Int.reduceAdd, Int.reduceLT, Int.reduceLE, Nat.reduceMul, decide_true, decide_false, v0, v1, v2, v3, v4, v8, v16, v24]
      exact ⟨m - 1, by omega, 1, by omega, rfl⟩
    | 1, hk =>
      have hj := or_join (ofB b 1) (b 1) (Nat.lt_of_lt_of_le (ofB_lt b 1 fun i hi => hb i (by omega)) (by decide)) (hb 1 (by decide))
      simp only [go_sem, Nat.reduceAdd, Nat.reduceLT, Nat.reduceEqDiff, Nat.reduceBEq, Nat.reduceLeDiff, Nat.reduceSub, Int.reduceToNat, reduceCtorEq, ↓reduceIte, avBytes, avU, avB, hs, hj, c0, c1, c2, c3, c4, Int.reduceSub, Int.reduceMul, Int.reduceAdd, Int.reduceLT, Int.reduceLE, Nat.reduceMul, decide_true, decide_false, v0, v1, v2, v3, v4, v8, v16, v24]
      exact ⟨m - 1, by omega, 2, by omega, rfl⟩
    | 2, hk =>
      have hj := or_join (ofB b 2) (b 2) (Nat.lt_of_lt_of_le (ofB_lt b 2 fun i hi => hb i (by omega)) (by decide)) (hb 2 (by decide))
      simp only [go_sem, Nat.reduceAdd, Nat.reduceLT, Nat.reduceEqDiff, Nat.reduceBEq, Nat.reduceLeDiff, Nat.reduceSub, Int.reduceToNat, reduceCtorEq, ↓reduceIte, avBytes, avU, avB, hs, hj, c0, c1, c2, c3, c4, Int.reduceSub, Int.reduceMul, Int.reduceAdd, Int.reduceLT, Int.reduceLE, Nat.reduceMul, decide_true, decide_false, v0, v1, v2, v3, v4, v8, v16, v24]
      exact ⟨m - 1, by omega, 3, by omega, rfl⟩
    | 3, hk =>
      have hj := or_join (ofB b 3) (b 3) (Nat.lt_of_lt_of_le (ofB_lt b 3 fun i hi => hb i (by omega)) (by decide)) (hb 3 (by decide))
      simp only [go_sem, Nat.reduceAdd, Nat.reduceLT, Nat.reduceEqDiff, Nat.reduceBEq, Nat.reduceLeDiff, Nat.reduceSub, Int.reduceToNat, reduceCtorEq, ↓reduceIte, avBytes, avU, avB, hs, hj, c0, c1, c2, c3, c4, Int.reduceSub, Int.reduceMul, Int.reduceAdd, Int.reduceLT, Int.reduceLE, Nat.reduceMul, decide_true, decide_false, v0, v1, v2, v3, v4, v8, v16, v24]
      exact ⟨m - 1, by omega, 4, by omega, rfl⟩
    | 4, hk => simp only [go_sem, Nat.reduceAdd, Nat.reduceLT, Nat.reduceEqDiff, Nat.reduceBEq, Nat.reduceLeDiff, Nat.reduceSub, Int.reduceToNat, reduceCtorEq, ↓reduceIte, avU, c0, c1, c2, c3, c4, Int.reduceSub, Int.reduceMul, Int.reduceAdd, Int.reduceLT, Int.reduceLE, Nat.reduceMul, decide_true, decide_false, v0, v1, v2, v3, v4, v8, v16, v24]
    | k + 5, hk => omega

theorem bytN_lt (a i : Nat) : bytN a i < 256 := Nat.mod_lt _ (by decide)
theorem ofB_bytN (a : Nat) (ha : a < 4294967296) : ofB (bytN a) 4 = a := by
  simp only [ofB, bytN]
  omega

/-! ### Texts -/
abbrev f_strconv_Itoa : FuncId := 53
abbrev f_strings_Join : FuncId := 58
def decB (n : Nat) : ByteArray := ⟨(Lib.decDigits n).toArray⟩
theorem pow10_is {R : RE} (hR : R.Start) : Lib.TabIs Tryd.prog R.w "internal/strconv.uint64pow10" .u64 Lib.pow10Tab := by
  obtain ⟨ty, fr, h⟩ := hR.globD.tab _ (List.mem_singleton_self _)
  unfold Lib.TabIs World.var?
  rw [show Tryd.prog.globalNamed "internal/strconv.uint64pow10" = some 17 from by kernel_rfl]
  simp only [Option.bind_some]
  rw [h]
  rfl

theorem bgrow (w : World) (k : Nat) (os : Array Obj) : Below w.heap.size w (Go.Sort.grow (w.drewN k) os) :=
  ⟨rfl, rfl, rfl, by simp [Go.Sort.grow, World.drewN], fun j hj => by simp [Go.Sort.grow, World.drewN]; rw [Array.getElem?_append_left hj]⟩

theorem C_Itoa (n : Nat) (hn : n < 9223372036854775808) : AC Tryd.prog f_strconv_Itoa [.lit (.int .i64 (n : Nat))] (avStr (decB n)) := by
  refine AC_lib (v := .string (decB n)) (enters_of Tryd.func53 (by kernel_rfl) (by kernel_rfl)) rfl (fun E => by simp only [avStr, Rep]) fun R cargs hR hrep => ?_
  simp only [RepL, Rep] at hrep
  obtain ⟨_, _, rfl, rfl, rfl⟩ := hrep
  refine (Tryd.strconv_Itoa (n : Int) (by omega) (by omega) R.w (pow10_is hR)).mono ?_
  rintro e w' ⟨rfl, k, os, rfl⟩
  refine ⟨?_, bgrow _ _ _⟩
  simp [Lib.itoa, decB]

theorem C_Join (t : Tok) (xs : List ByteArray) (sep : ByteArray) (ht : t = .none) (h0 : 0 < xs.length) (hN : xs.length ≤ 140737488355328) (hlen : (Lib.join (xs.map (·.data.toList)) sep.data.toList).length ≤ 140737488355328) :
    AC Tryd.prog f_strings_Join [.sl t 1 (xs.map avStr), avStr sep] (avStr ⟨(Lib.join (xs.map (·.data.toList)) sep.data.toList).toArray⟩) := by
  subst ht
  refine AC_lib (v := .string ⟨(Lib.join (xs.map (·.data.toList)) sep.data.toList).toArray⟩) (enters_of Tryd.func58 (by kernel_rfl) (by kernel_rfl)) rfl (fun E => by simp only [avStr, Rep]) fun R cargs hR hrep => ?_
  simp only [RepL, Rep, avStr] at hrep
  obtain ⟨_, _, rfl, ⟨A, cap, vs, rfl, hcap, hr, _, _, hat⟩, _, _, rfl, rfl, rfl⟩ := hrep
  have hne : (xs.map avStr) ≠ [] := by
    intro e
    simp at e
    subst e
    simp at h0
  obtain ⟨b, o, rfl, hat2⟩ := hat hne
  have hvs := rows_str hr
  subst hvs
  rw [flat_str] at hat2
  have hcell : ∀ (j : Nat) x, xs[j]? = some x → R.w.cell? ⟨b, o + j, none⟩ = some (.string x) := fun j x hx => (hat2 j _ (by rw [List.getElem?_map, hx]; rfl)).2
  obtain ⟨x, hx⟩ : ∃ x, xs[0]? = some x := ⟨xs[0], List.getElem?_eq_getElem h0⟩
  have hlt := World.block_lt_of_cell? R.w _ (hcell 0 x hx)
  have hl : (List.map avStr xs).length = xs.length := by simp
  rw [hl]
  rw [hl] at hcap
  exact Tryd.strings_Join b o cap xs sep R.w hcell hlt hN hcap hlen

/-- An address's text. -/
def byT (b : Nat → Nat) (i : Nat) : ByteArray := decB (b i)
def joinDot (xs : List ByteArray) : ByteArray := ⟨(Lib.join (xs.map (·.data.toList)) [46]).toArray⟩
def textB (b : Nat → Nat) : ByteArray := joinDot [byT b 0, byT b 1, byT b 2, byT b 3]
def avTxt (b : Nat → Nat) : Nat → AV
  | 0 => .sl .nil 0 []
  | 1 => .sl (.own [16]) 1 [avStr (byT b 0)]
  | 2 => .sl (.own [16]) 1 [avStr (byT b 0), avStr (byT b 1)]
  | 3 => .sl (.own [16]) 1 [avStr (byT b 0), avStr (byT b 1), avStr (byT b 2)]
  | _ => .sl (.own [16]) 1 [avStr (byT b 0), avStr (byT b 1), avStr (byT b 2), avStr (byT b 3)]

theorem u8_i64 (n : Nat) (h : n < 256) : IntKind.i64.wrap (n : Int) = (n : Int) := by rw [IntKind.wrap_i64]; omega

theorem C_Text (a : Nat) (ha : a < 4294967296) (hlen : (Lib.join ([byT (bytN a) 0, byT (bytN a) 1, byT (bytN a) 2, byT (bytN a) 3].map (·.data.toList)) [46]).length ≤ 140737488355328) :
    AC Tryd.prog f_addr_Text [avU a] (avStr (textB (bytN a))) := by
  refine ac_addr_Text ?_ (Nat.le_add_left 1 19)
  simp only [go_sem, Nat.reduceAdd, Nat.reduceLT, Nat.reduceEqDiff, Nat.reduceBEq, Nat.reduceLeDiff, Nat.reduceSub, Int.reduceToNat, reduceCtorEq, ↓reduceIte, c_addr_Text, avU]
  refine callX_of (C_Bytes a ha) ?_
  simp only [go_sem, Nat.reduceAdd, Nat.reduceLT, Nat.reduceEqDiff, Nat.reduceBEq, Nat.reduceLeDiff, Nat.reduceSub, Int.reduceToNat, reduceCtorEq, ↓reduceIte, avBytes, avB]
  refine aw_loop (fun m E => ∃ k : Nat, k + m = 4 ∧ E = mkE [(3, avTxt (bytN a) k), (7, avBytes (bytN a)), (8, .lit (.int .i64 (k : Nat)))] []) 4 ?_ ?_
  · exact ⟨0, by omega, by simp only [go_sem, Nat.reduceAdd, Nat.reduceLT, Nat.reduceEqDiff, Nat.reduceBEq, Nat.reduceLeDiff, Nat.reduceSub, Int.reduceToNat, reduceCtorEq, ↓reduceIte]; rfl⟩
  · rintro m _ ⟨k, hk, rfl⟩
    match k, hk with
    | 0, hk =>
      have hw := u8_i64 (bytN a 0) (bytN_lt a 0)
      simp only [go_sem, Nat.reduceAdd, Nat.reduceLT, Nat.reduceEqDiff, Nat.reduceBEq, Nat.reduceLeDiff, Nat.reduceSub, Int.reduceToNat, reduceCtorEq, ↓reduceIte, avBytes, avB, avTxt, hw, c0, c1, c2, c3, c4, Int.reduceSub, Int.reduceMul, Int.reduceAdd, Int.reduceLT, Int.reduceLE, Nat.reduceMul, decide_true, decide_false, v0, v1, v2, v3, v4, v8, v16, v24]
      refine callX_of (C_Itoa (bytN a 0) (by have := bytN_lt a 0; omega)) ?_
      simp only [go_sem, Nat.reduceAdd, Nat.reduceLT, Nat.reduceEqDiff, Nat.reduceBEq, Nat.reduceLeDiff, Nat.reduceSub, Int.reduceToNat, reduceCtorEq, ↓reduceIte, avStr, c0, c1, c2, c3, c4, Int.reduceSub, Int.reduceMul, Int.reduceAdd, Int.reduceLT, Int.reduceLE, Nat.reduceMul, decide_true, decide_false, v0, v1, v2, v3, v4, v8, v16, v24]
      rw [avApp_nil _ _ _ _ _ _ _ (by simp) (by decide)]
      simp only [go_sem, Nat.reduceAdd, Nat.reduceLT, Nat.reduceEqDiff, Nat.reduceBEq, Nat.reduceLeDiff, Nat.reduceSub, Int.reduceToNat, reduceCtorEq, ↓reduceIte, c0, c1, c2, c3, c4, Int.reduceSub, Int.reduceMul, Int.reduceAdd, Int.reduceLT, Int.reduceLE, Nat.reduceMul, decide_true, decide_false, v0, v1, v2, v3, v4, v8, v16, v24]
      exact ⟨m - 1, by omega, 1, by omega, rfl⟩
    | 1, hk =>
      have hw := u8_i64 (bytN a 1) (bytN_lt a 1)
      simp only [go_sem, Nat.reduceAdd, Nat.reduceLT, Nat.reduceEqDiff, Nat.reduceBEq, Nat.reduceLeDiff, Nat.reduceSub, Int.reduceToNat, reduceCtorEq, ↓reduceIte, avBytes, avB, avTxt, hw, c0, c1, c2, c3, c4, Int.reduceSub, Int.reduceMul, Int.reduceAdd, Int.reduceLT, Int.reduceLE, Nat.reduceMul, decide_true, decide_false, v0, v1, v2, v3, v4, v8, v16, v24]
      refine callX_of (C_Itoa (bytN a 1) (by have := bytN_lt a 1; omega)) ?_
      simp only [go_sem, Nat.reduceAdd, Nat.reduceLT, Nat.reduceEqDiff, Nat.reduceBEq, Nat.reduceLeDiff, Nat.reduceSub, Int.reduceToNat, reduceCtorEq, ↓reduceIte, avStr, c0, c1, c2, c3, c4, Int.reduceSub, Int.reduceMul, Int.reduceAdd, Int.reduceLT, Int.reduceLE, Nat.reduceMul, decide_true, decide_false, v0, v1, v2, v3, v4, v8, v16, v24]
      rw [avApp_own _ _ _ _ _ _ _ (by simp) (by decide) rfl]
      simp only [go_sem, Nat.reduceAdd, Nat.reduceLT, Nat.reduceEqDiff, Nat.reduceBEq, Nat.reduceLeDiff, Nat.reduceSub, Int.reduceToNat, reduceCtorEq, ↓reduceIte, c0, c1, c2, c3, c4, Int.reduceSub, Int.reduceMul, Int.reduceAdd, Int.reduceLT, Int.reduceLE, Nat.reduceMul, decide_true, decide_false, v0, v1, v2, v3, v4, v8, v16, v24]
      exact ⟨m - 1, by omega, 2, by omega, rfl⟩
    | 2, hk =>
      have hw := u8_i64 (bytN a 2) (bytN_lt a 2)
      simp only [go_sem, Nat.reduceAdd, Nat.reduceLT, Nat.reduceEqDiff, Nat.reduceBEq, Nat.reduceLeDiff, Nat.reduceSub, Int.reduceToNat, reduceCtorEq, ↓reduceIte, avBytes, avB, avTxt, hw, c0, c1, c2, c3, c4, Int.reduceSub, Int.reduceMul, Int.reduceAdd, Int.reduceLT, Int.reduceLE, Nat.reduceMul, decide_true, decide_false, v0, v1, v2, v3, v4, v8, v16, v24]
      refine callX_of (C_Itoa (bytN a 2) (by have := bytN_lt a 2; omega)) ?_
      simp only [go_sem, Nat.reduceAdd, Nat.reduceLT, Nat.reduceEqDiff, Nat.reduceBEq, Nat.reduceLeDiff, Nat.reduceSub, Int.reduceToNat, reduceCtorEq, ↓reduceIte, avStr, c0, c1, c2, c3, c4, Int.reduceSub, Int.reduceMul, Int.reduceAdd, Int.reduceLT, Int.reduceLE, Nat.reduceMul, decide_true, decide_false, v0, v1, v2, v3, v4, v8, v16, v24]
      rw [avApp_own _ _ _ _ _ _ _ (by simp) (by decide) rfl]
      simp only [go_sem, Nat.reduceAdd, Nat.reduceLT, Nat.reduceEqDiff, Nat.reduceBEq, Nat.reduceLeDiff, Nat.reduceSub, Int.reduceToNat, reduceCtorEq, ↓reduceIte, c0, c1, c2, c3, c4, Int.reduceSub, Int.reduceMul, Int.reduceAdd, Int.reduceLT, Int.reduceLE, Nat.reduceMul, decide_true, decide_false, v0, v1, v2, v3, v4, v8, v16, v24]
      exact ⟨m - 1, by omega, 3, by omega, rfl⟩
    | 3, hk =>
      have hw := u8_i64 (bytN a 3) (bytN_lt a 3)
      simp only [go_sem, Nat.reduceAdd, Nat.reduceLT, Nat.reduceEqDiff, Nat.reduceBEq, Nat.reduceLeDiff, Nat.reduceSub, Int.reduceToNat, reduceCtorEq, ↓reduceIte, avBytes, avB, avTxt, hw, c0, c1, c2, c3, c4, Int.reduceSub, Int.reduceMul, Int.reduceAdd, Int.reduceLT, Int.reduceLE, Nat.reduceMul, decide_true, decide_false, v0, v1, v2, v3, v4, v8, v16, v24]
      refine callX_of (C_Itoa (bytN a 3) (by have := bytN_lt a 3; omega)) ?_
      simp only [go_sem, Nat.reduceAdd, Nat.reduceLT, Nat.reduceEqDiff, Nat.reduceBEq, Nat.reduceLeDiff, Nat.reduceSub, Int.reduceToNat, reduceCtorEq, ↓reduceIte, avStr, c0, c1, c2, c3, c4, Int.reduceSub, Int.reduceMul, Int.reduceAdd, Int.reduceLT, Int.reduceLE, Nat.reduceMul, decide_true, decide_false, v0, v1, v2, v3, v4, v8, v16, v24]
      rw [avApp_own _ _ _ _ _ _ _ (by simp) (by decide) rfl]
      simp only [go_sem, Nat.reduceAdd, Nat.reduceLT, Nat.reduceEqDiff, Nat.reduceBEq, Nat.reduceLeDiff, Nat.reduceSub, Int.reduceToNat, reduceCtorEq, ↓reduceIte, c0, c1, c2, c3, c4, Int.reduceSub, Int.reduceMul, Int.reduceAdd, Int.reduceLT, Int.reduceLE, Nat.reduceMul, decide_true, decide_false, v0, v1, v2, v3, v4, v8, v16, v24]
      exact ⟨m - 1, by omega, 4, by omega, rfl⟩
    | 4, hk =>
      simp only [go_sem, Nat.reduceAdd, Nat.reduceLT, Nat.reduceEqDiff, Nat.reduceBEq, Nat.reduceLeDiff, Nat.reduceSub, Int.reduceToNat, reduceCtorEq, ↓reduceIte, avTxt, c0, c1, c2, c3, c4, Int.reduceSub, Int.reduceMul, Int.reduceAdd, Int.reduceLT, Int.reduceLE, Nat.reduceMul, decide_true, decide_false, v0, v1, v2, v3, v4, v8, v16, v24]
      refine callX_of (C_Join .none [byT (bytN a) 0, byT (bytN a) 1, byT (bytN a) 2, byT (bytN a) 3] ⟨#[46]⟩ rfl (by simp) (by simp) hlen) ?_
      simp only [go_sem, Nat.reduceAdd, Nat.reduceLT, Nat.reduceEqDiff, Nat.reduceBEq, Nat.reduceLeDiff, Nat.reduceSub, Int.reduceToNat, reduceCtorEq, ↓reduceIte, avStr, c0, c1, c2, c3, c4, Int.reduceSub, Int.reduceMul, Int.reduceAdd, Int.reduceLT, Int.reduceLE, Nat.reduceMul, decide_true, decide_false, v0, v1, v2, v3, v4, v8, v16, v24]
      rfl
    | k + 5, hk => omega

end Go.Proofs.YtodnphnbnneegaaDoor.VL
