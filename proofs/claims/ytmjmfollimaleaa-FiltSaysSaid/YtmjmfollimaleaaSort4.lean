/- slices.Sort over addresses, part 4: bits.Len, nextPowerOfTwo, xorshift, breakPatterns: contracts. -/
import Derived.Test.YtmjmfollimaleaaSort3
import Derived.Test.YtmjmfollimaleaaBitsA
import Derived.Sort.LotD1
import Derived.Sort.LotD5
import Derived.Laws.Bits64
import Derived.Laws.Bits64b
set_option linter.unusedVariables false
set_option linter.unusedSimpArgs false
set_option maxHeartbeats 4000000
namespace Go.Proofs.Ytmjmfollimaleaa.VL
open Go.RowKit Go.Proofs Go.Sort

set_option maxRecDepth 100000 in
theorem lenTab : ∀ n, n < 256 → ((⟨#[0, 1, 2, 2, 3, 3, 3, 3, 4, 4, 4, 4, 4, 4, 4, 4, 5, 5, 5, 5, 5, 5, 5, 5, 5, 5, 5, 5, 5, 5, 5, 5, 6, 6, 6, 6, 6, 6, 6, 6, 6, 6, 6, 6, 6, 6, 6, 6, 6, 6, 6, 6, 6, 6, 6, 6, 6, 6, 6, 6, 6, 6, 6, 6, 7, 7, 7, 7, 7, 7, 7, 7, 7, 7, 7, 7, 7, 7, 7, 7, 7, 7, 7, 7, 7, 7, 7, 7, 7, 7, 7, 7, 7, 7, 7, 7, 7, 7, 7, 7, 7, 7, 7, 7, 7, 7, 7, 7, 7, 7, 7, 7, 7, 7, 7, 7, 7, 7, 7, 7, 7, 7, 7, 7, 7, 7, 7, 7, 8, 8, 8, 8, 8, 8, 8, 8, 8, 8, 8, 8, 8, 8, 8, 8, 8, 8, 8, 8, 8, 8, 8, 8, 8, 8, 8, 8, 8, 8, 8, 8, 8, 8, 8, 8, 8, 8, 8, 8, 8, 8, 8, 8, 8, 8, 8, 8, 8, 8, 8, 8, 8, 8, 8, 8, 8, 8, 8, 8, 8, 8, 8, 8, 8, 8, 8, 8, 8, 8, 8, 8, 8, 8, 8, 8, 8, 8, 8, 8, 8, 8, 8, 8, 8, 8, 8, 8, 8, 8, 8, 8, 8, 8, 8, 8, 8, 8, 8, 8, 8, 8, 8, 8, 8, 8, 8, 8, 8, 8, 8, 8, 8, 8, 8, 8, 8, 8, 8, 8, 8, 8, 8, 8, 8, 8, 8, 8]⟩ : ByteArray)[n]?).map UInt8.toNat = some (bitsLen n) := by decide +kernel
set_option maxRecDepth 100000 in
theorem lenAt (n : Nat) (h : n < 256) : avIxs (.lit (.string ⟨#[0, 1, 2, 2, 3, 3, 3, 3, 4, 4, 4, 4, 4, 4, 4, 4, 5, 5, 5, 5, 5, 5, 5, 5, 5, 5, 5, 5, 5, 5, 5, 5, 6, 6, 6, 6, 6, 6, 6, 6, 6, 6, 6, 6, 6, 6, 6, 6, 6, 6, 6, 6, 6, 6, 6, 6, 6, 6, 6, 6, 6, 6, 6, 6, 7, 7, 7, 7, 7, 7, 7, 7, 7, 7, 7, 7, 7, 7, 7, 7, 7, 7, 7, 7, 7, 7, 7, 7, 7, 7, 7, 7, 7, 7, 7, 7, 7, 7, 7, 7, 7, 7, 7, 7, 7, 7, 7, 7, 7, 7, 7, 7, 7, 7, 7, 7, 7, 7, 7, 7, 7, 7, 7, 7, 7, 7, 7, 7, 8, 8, 8, 8, 8, 8, 8, 8, 8, 8, 8, 8, 8, 8, 8, 8, 8, 8, 8, 8, 8, 8, 8, 8, 8, 8, 8, 8, 8, 8, 8, 8, 8, 8, 8, 8, 8, 8, 8, 8, 8, 8, 8, 8, 8, 8, 8, 8, 8, 8, 8, 8, 8, 8, 8, 8, 8, 8, 8, 8, 8, 8, 8, 8, 8, 8, 8, 8, 8, 8, 8, 8, 8, 8, 8, 8, 8, 8, 8, 8, 8, 8, 8, 8, 8, 8, 8, 8, 8, 8, 8, 8, 8, 8, 8, 8, 8, 8, 8, 8, 8, 8, 8, 8, 8, 8, 8, 8, 8, 8, 8, 8, 8, 8, 8, 8, 8, 8, 8, 8, 8, 8, 8, 8, 8, 8, 8, 8]⟩)) (.lit (.int .u8 n)) = some (.lit (.int .u8 (bitsLen n : Nat))) := by
  have hs : n < (⟨#[0, 1, 2, 2, 3, 3, 3, 3, 4, 4, 4, 4, 4, 4, 4, 4, 5, 5, 5, 5, 5, 5, 5, 5, 5, 5, 5, 5, 5, 5, 5, 5, 6, 6, 6, 6, 6, 6, 6, 6, 6, 6, 6, 6, 6, 6, 6, 6, 6, 6, 6, 6, 6, 6, 6, 6, 6, 6, 6, 6, 6, 6, 6, 6, 7, 7, 7, 7, 7, 7, 7, 7, 7, 7, 7, 7, 7, 7, 7, 7, 7, 7, 7, 7, 7, 7, 7, 7, 7, 7, 7, 7, 7, 7, 7, 7, 7, 7, 7, 7, 7, 7, 7, 7, 7, 7, 7, 7, 7, 7, 7, 7, 7, 7, 7, 7, 7, 7, 7, 7, 7, 7, 7, 7, 7, 7, 7, 7, 8, 8, 8, 8, 8, 8, 8, 8, 8, 8, 8, 8, 8, 8, 8, 8, 8, 8, 8, 8, 8, 8, 8, 8, 8, 8, 8, 8, 8, 8, 8, 8, 8, 8, 8, 8, 8, 8, 8, 8, 8, 8, 8, 8, 8, 8, 8, 8, 8, 8, 8, 8, 8, 8, 8, 8, 8, 8, 8, 8, 8, 8, 8, 8, 8, 8, 8, 8, 8, 8, 8, 8, 8, 8, 8, 8, 8, 8, 8, 8, 8, 8, 8, 8, 8, 8, 8, 8, 8, 8, 8, 8, 8, 8, 8, 8, 8, 8, 8, 8, 8, 8, 8, 8, 8, 8, 8, 8, 8, 8, 8, 8, 8, 8, 8, 8, 8, 8, 8, 8, 8, 8, 8, 8, 8, 8, 8, 8]⟩ : ByteArray).size := h
  rw [avIxs_at _ _ _ hs]
  have e := lenTab n h
  rw [getElem?_pos _ n hs] at e
  simp only [Option.map_some, Option.some.injEq] at e
  rw [e]

theorem bitsLen_le8 {n : Nat} (h : n < 256) : bitsLen n ≤ 8 := (bitsLen_le_iff n 8).2 h

set_option maxRecDepth 100000 in
theorem C_Len64 {n : Nat} (h : n < 256) : AC Try.prog f_math_bits_Len64 [.lit (.int .u64 n)] (iI (bitsLen n : Nat)) := by
  refine ac_math_bits_Len64 ?_ (Nat.le_add_left 1 _)
  have f1 : ((4294967296 : Int) ≤ (n : Int)) = False := eq_false (by omega)
  have f2 : ((65536 : Int) ≤ (n : Int)) = False := eq_false (by omega)
  have f3 : ((256 : Int) ≤ (n : Int)) = False := eq_false (by omega)
  have w1 : IntKind.u8.wrap (n : Int) = (n : Int) := by rw [IntKind.wrap_u8]; omega
  have hb := bitsLen_le8 h
  have w2 := iwn (bitsLen n) rfl (by omega)
  simp only [go_sem, Nat.reduceAdd, Nat.reduceLT, Nat.reduceEqDiff, Nat.reduceBEq, Nat.reduceLeDiff, Nat.reduceSub, Int.reduceToNat, reduceCtorEq, ↓reduceIte, c_math_bits_Len64, f1, f2, f3, decide_false, w1, lenAt n h, w2, Int.zero_add]

theorem C_Len {n : Nat} (h : n < 256) : AC Try.prog f_math_bits_Len [.lit (.int .u64 n)] (iI (bitsLen n : Nat)) := by
  refine ac_math_bits_Len ?_ (Nat.le_add_left 1 _)
  simp only [go_sem, Nat.reduceAdd, Nat.reduceLT, Nat.reduceEqDiff, Nat.reduceBEq, Nat.reduceLeDiff, Nat.reduceSub, Int.reduceToNat, reduceCtorEq, ↓reduceIte, c_math_bits_Len]
  refine callX_of (C_Len64 h) ?_
  simp only [go_sem, Nat.reduceAdd, Nat.reduceLT, Nat.reduceEqDiff, Nat.reduceBEq, Nat.reduceLeDiff, Nat.reduceSub, Int.reduceToNat, reduceCtorEq, ↓reduceIte]

theorem C_nextPow {n : Nat} (h : n < 256) : AC Try.prog f_slices_nextPowerOfTwo [iI n] (.lit (.int .u64 (1 <<< bitsLen n : Nat))) := by
  refine ac_slices_nextPowerOfTwo ?_ (Nat.le_add_left 1 _)
  have w1 : IntKind.u64.wrap (n : Int) = (n : Int) := by rw [IntKind.wrap_u64]; omega
  have hb := bitsLen_le8 h
  have hp : (2 : Nat) ^ bitsLen n ≤ 2 ^ 8 := Nat.pow_le_pow_right (by decide) hb
  simp only [go_sem, Nat.reduceAdd, Nat.reduceLT, Nat.reduceEqDiff, Nat.reduceBEq, Nat.reduceLeDiff, Nat.reduceSub, Int.reduceToNat, reduceCtorEq, ↓reduceIte, c_slices_nextPowerOfTwo, w1]
  refine callX_of (C_Len h) ?_
  have e : avBin .shl 63 (.lit (.int .u64 1)) (.lit (.int .i64 (bitsLen n : Nat))) = some (.lit (.int .u64 (1 <<< bitsLen n : Nat))) := by
    rw [avBin_shl _ _ _ _ _ (by omega) (by show ((bitsLen n : Nat) : Int) ≤ 64; omega), IntKind.wrap_u64, Nat.one_shiftLeft, Int.toNat_natCast, Int.one_mul, show ((2 : Int) ^ bitsLen n) = ((2 ^ bitsLen n : Nat) : Int) by push_cast; rfl]
    generalize (2 : Nat) ^ bitsLen n = p at hp
    congr 3
    omega
  simp only [go_sem, Nat.reduceAdd, Nat.reduceLT, Nat.reduceEqDiff, Nat.reduceBEq, Nat.reduceLeDiff, Nat.reduceSub, Int.reduceToNat, reduceCtorEq, ↓reduceIte, e]

theorem C_Next {X : Nat} (hX : X < 18446744073709551616) : AM Try.prog f_slices_xorshift_Next [.lp 100000 0] [(100000, [.lit (.int .u64 X)])] (.lit (.int .u64 (xorNextN X : Nat))) [(100000, [.lit (.int .u64 (xorNextN X : Nat))])] := by
  refine am_slices_xorshift_Next ?_ (by simp) (Nat.le_add_left 1 _)
  obtain ⟨A, hA⟩ : ∃ A : Nat, A = X ^^^ (X * 8192 % 18446744073709551616) := ⟨_, rfl⟩
  obtain ⟨B, hB⟩ : ∃ B : Nat, B = A ^^^ (A / 128) := ⟨_, rfl⟩
  obtain ⟨C, hC⟩ : ∃ C : Nat, C = B ^^^ (B * 131072 % 18446744073709551616) := ⟨_, rfl⟩
  have lA : A < 18446744073709551616 := by rw [hA]; exact Nat.xor_lt_two_pow (n := 64) (by omega) (by omega)
  have lB : B < 18446744073709551616 := by rw [hB]; exact Nat.xor_lt_two_pow (n := 64) (by omega) (by omega)
  have e1 : bits .xor .u64 (X : Int) ((X * 8192 % 18446744073709551616 : Nat) : Int) = (A : Int) := by
    rw [bits_xor_u64_nat _ _ hX (by omega), hA]
  have e2 : bits .xor .u64 (A : Int) ((A / 128 : Nat) : Int) = (B : Int) := by
    rw [bits_xor_u64_nat _ _ lA (by omega), hB]
  have e3 : bits .xor .u64 (B : Int) ((B * 131072 % 18446744073709551616 : Nat) : Int) = (C : Int) := by
    rw [bits_xor_u64_nat _ _ lB (by omega), hC]
  have s1 : avBin .shl 76 (.lit (.int .u64 X)) (.lit (.int .u64 13)) = some (.lit (.int .u64 (X * 8192 % 18446744073709551616 : Nat))) := by
    rw [avBin_shl _ _ _ _ _ (by decide) (by decide), IntKind.wrap_u64]
    congr 3
  have s2 : avBin .shr 76 (.lit (.int .u64 A)) (.lit (.int .u64 7)) = some (.lit (.int .u64 (A / 128 : Nat))) := by
    rw [avBin_shr _ _ _ _ _ (by decide) (by decide)]
    congr 3
  have s3 : avBin .shl 76 (.lit (.int .u64 B)) (.lit (.int .u64 17)) = some (.lit (.int .u64 (B * 131072 % 18446744073709551616 : Nat))) := by
    rw [avBin_shl _ _ _ _ _ (by decide) (by decide), IntKind.wrap_u64]
    congr 3
  have hv : xorNextN X = C := by unfold xorNextN; simp only []; rw [← hA, ← hB, ← hC]
  rw [hv]
  clear hA hB hC hv
  simp only [go_sem, Nat.reduceAdd, Nat.reduceLT, Nat.reduceEqDiff, Nat.reduceBEq, Nat.reduceLeDiff, Nat.reduceSub, Int.reduceToNat, reduceCtorEq, ↓reduceIte, env0M_mk, c_slices_xorshift_Next, List.map_cons, List.map_nil, s1, s2, s3, avBin_xor, e1, e2, e3, endM_n, endM_r]
  rfl

/-! ### breakPatterns -/
/-- So many rounds are left; t have been made. -/
def bpR (a L M i0 : Nat) : Nat → Nat → UInt64 × Array Int → Array Int
  | 0, _, st => st.2
  | k + 1, t, st => bpR a L M i0 k (t + 1) (breakStep a L M st (i0 + t))
theorem bpR_eq (d : Array Int) (a b : Nat) (h8 : 8 ≤ b - a) : breakPatterns d a b = bpR a (b - a) (1 <<< bitsLen (b - a)) (a + (b - a) / 4 * 2 - 1) 3 0 (UInt64.ofNat (b - a), d) := by
  unfold breakPatterns
  simp only []
  rw [if_pos h8]
  rfl
theorem bpR_step (a L M i0 t : Nat) (r : UInt64) (d : Array Int) (o : Nat) (ht : t < 3) (ho : (if (xorNext r).toNat &&& (M - 1) ≥ L then ((xorNext r).toNat &&& (M - 1)) - L else (xorNext r).toNat &&& (M - 1)) = o) :
    bpR a L M i0 (3 - t) t (r, d) = bpR a L M i0 (3 - (t + 1)) (t + 1) (xorNext r, swp d (i0 + t) (a + o)) := by
  rw [show 3 - t = (3 - (t + 1)) + 1 by omega, bpR]
  unfold breakStep
  simp only [ho]

abbrev uU (n : Nat) : AV := .lit (.int .u64 n)
theorem back_7 (s : List (Nat × AV)) (x y : List AV) (q : List AV) : backC [(7, 100000)] [(100000, q)] (mkE s [(7, x), (100000, y)]) = mkE s [(7, q), (100000, y)] := by
  simp only [backC, mkE]
  congr 1
  funext c
  by_cases h2 : c = 7
  · subst h2; rfl
  · by_cases h : c = 100000
    · subst h; rfl
    · simp [lentAs, getC, h, h2]
theorem call7_of {P : Program} {dst : Option Nat} {os : List AOper} {s : List (Nat × AV)} {K : Env → Prop} {f : FuncId} {raw al : List AV} {args : Option (List AV)} {r : AV} {y : List AV} {n n' : Nat}
    (hl : mapO (lowerM [(7, 100000)] (getC [(7, [uU n]), (100000, y)]) 8) raw = some al) (h : AM P f al [(100000, [uU n])] r [(100000, [uU n'])])
    (hk : awX false P os ((mkE s [(7, [uU n']), (100000, y)]).putO dst (retag (dst.getD 0) (unlend [(7, 100000)] r))) K) : callX false P dst os s [(7, [uU n]), (100000, y)] K f raw args := by
  refine callM_of [(7, 100000)] rfl hl rfl h ?_
  rw [back_7]
  exact hk
theorem retC_7 {s : List (Nat × AV)} {d : Array Int} {tl : List AV} (ht : Tl tl) (x : List AV) : retC (mkE s [(7, x), (100000, dC d tl)]) [100000] = some [(100000, dC d tl)] := by
  simp only [retC, mapO_cons, mapO_nil, mkE_c, getC_cons, ↓reduceIte, ret_dC _ d ht, catO_some, show ((100000 : Nat) = 7) = False from by simp]

theorem C_breakPatterns {d : Array Int} {a b cap : Nat} {tl : List AV} (ht : Tl tl) (hab : a + 12 < b) (hb : b ≤ d.size) (hd : d.size ≤ 255) :
    AM Try.prog f_slices_breakPatternsOrdered_api_Addr [dS d.size cap, iI a, iI b] [(100000, dC d tl)] (.tup []) [(100000, dC (breakPatterns d a b) tl)] := by
  refine am_slices_breakPatternsOrdered_api_Addr ?_ (by simp) (Nat.le_add_left 3 _)
  rw [bpR_eq d a b (by omega)]
  have wl := iwn (b - a) (by omega : (b : Int) - (a : Int) = ((b - a : Nat) : Int)) (by omega)
  generalize hL : b - a = L at wl
  have hNP := C_nextPow (n := L) (by omega)
  have hM2 : 1 <<< bitsLen L ≤ 2 * L := by rw [Nat.one_shiftLeft]; exact two_pow_bitsLen_le (by omega)
  have hM1 : 1 ≤ 1 <<< bitsLen L := by rw [Nat.one_shiftLeft]; exact Nat.two_pow_pos _
  generalize 1 <<< bitsLen L = M at hNP hM1 hM2
  have wq : (L : Int).tdiv 4 = ((L / 4 : Nat) : Int) := by
    rw [Int.tdiv_eq_ediv_of_nonneg (by omega)]
    omega
  have w2 := iwn (L / 4) rfl (by omega)
  have hq : 3 ≤ L / 4 ∧ L / 4 * 4 ≤ L := by omega
  generalize L / 4 = q at wq w2 hq
  have m2 := iwn (q * 2) (by omega : (q : Int) * 2 = ((q * 2 : Nat) : Int)) (by omega)
  have a2 := iwn (a + q * 2) (by omega : (a : Int) + ((q * 2 : Nat) : Int) = ((a + q * 2 : Nat) : Int)) (by omega)
  have a3 := iwn (a + q * 2 - 1) (by omega : ((a + q * 2 : Nat) : Int) - 1 = ((a + q * 2 - 1 : Nat) : Int)) (by omega)
  have a4 := iwn (a + q * 2 + 1) (by omega : ((a + q * 2 : Nat) : Int) + 1 = ((a + q * 2 + 1 : Nat) : Int)) (by omega)
  have g1 : ((8 : Int) ≤ (L : Int)) = True := eq_true (by omega)
  have wu : IntKind.u64.wrap (L : Int) = (L : Int) := by rw [IntKind.wrap_u64]; omega
  have wM : IntKind.u64.wrap ((M : Int) - 1) = ((M - 1 : Nat) : Int) := by rw [IntKind.wrap_u64]; omega
  simp only [go_sem, Nat.reduceAdd, Nat.reduceLT, Nat.reduceEqDiff, Nat.reduceBEq, Nat.reduceLeDiff, Nat.reduceSub, Int.reduceToNat, reduceCtorEq, ↓reduceIte, env0M_mk, c_slices_breakPatternsOrdered_api_Addr, List.map_cons, List.map_nil, wl, g1, decide_true, wu]
  refine callX_of hNP ?_
  simp only [go_sem, Nat.reduceAdd, Nat.reduceLT, Nat.reduceEqDiff, Nat.reduceBEq, Nat.reduceLeDiff, Nat.reduceSub, Int.reduceToNat, reduceCtorEq, ↓reduceIte, wq, w2, m2, a2, a3, show ((4 : Int) == 0) = false from rfl]
  refine aw_loop (fun m E => ∃ (t : Nat) (r : UInt64) (x : Array Int), x.size = d.size ∧ t ≤ 3 ∧ 3 - t ≤ m ∧ bpR a L M (a + q * 2 - 1) (3 - t) t (r, x) = bpR a L M (a + q * 2 - 1) 3 0 (UInt64.ofNat L, d) ∧
    E = mkE [(0, dS d.size cap), (1, iI a), (6, iI L), (7, .lp 7 0), (8, uU M), (9, iI (a + q * 2 - 1 + t : Nat))] [(7, [uU r.toNat]), (100000, dC x tl)]) 3 ?_ ?_
  · refine ⟨0, UInt64.ofNat L, d, rfl, by omega, by omega, rfl, ?_⟩
    have e : (UInt64.ofNat L).toNat = L := by rw [UInt64.toNat_ofNat']; omega
    simp only [go_sem, Nat.reduceAdd, Nat.reduceLT, Nat.reduceEqDiff, Nat.reduceBEq, Nat.reduceLeDiff, Nat.reduceSub, Int.reduceToNat, reduceCtorEq, ↓reduceIte, e, Nat.add_zero]
  · rintro m _ ⟨t, r, x, hx, ht3, hm, hr, rfl⟩
    by_cases h : t < 3
    · have f1 : (((a + q * 2 - 1 + t : Nat) : Int) ≤ ((a + q * 2 + 1 : Nat) : Int)) = True := eq_true (by omega)
      have hN := C_Next (X := r.toNat) r.toNat_lt
      rw [← xorNext_toNat] at hN
      have hxl := (xorNext r).toNat_lt
      have e1 : bits .and .u64 ((xorNext r).toNat : Int) ((M - 1 : Nat) : Int) = (((xorNext r).toNat &&& (M - 1) : Nat) : Int) := bits_and_u64_nat _ _ hxl (by omega)
      have hbs := bpR_step a L M (a + q * 2 - 1) t r x _ h rfl
      rw [hr] at hbs
      have hle : (xorNext r).toNat &&& (M - 1) ≤ M - 1 := Nat.and_le_right
      generalize (xorNext r).toNat &&& (M - 1) = o at e1 hle hbs
      have wo := iwn o rfl (by omega)
      simp only [go_sem, Nat.reduceAdd, Nat.reduceLT, Nat.reduceEqDiff, Nat.reduceBEq, Nat.reduceLeDiff, Nat.reduceSub, Int.reduceToNat, reduceCtorEq, ↓reduceIte, wq, w2, m2, a2, a3, a4, f1, decide_true, show ((4 : Int) == 0) = false from rfl]
      refine call7_of rfl hN ?_
      simp only [go_sem, Nat.reduceAdd, Nat.reduceLT, Nat.reduceEqDiff, Nat.reduceBEq, Nat.reduceLeDiff, Nat.reduceSub, Int.reduceToNat, reduceCtorEq, ↓reduceIte, wM, e1, wo]
      have a5 := iwn (a + q * 2 - 1 + (t + 1)) (by omega : ((a + q * 2 - 1 + t : Nat) : Int) + 1 = ((a + q * 2 - 1 + (t + 1) : Nat) : Int)) (by omega)
      have bI : ((a + q * 2 - 1 + t : Nat) : Int) < (d.size : Int) := by omega
      by_cases ho : L ≤ o
      · have f2 : ((L : Int) ≤ (o : Int)) = True := eq_true (by omega)
        rw [if_pos ho] at hbs
        have w5 := iwn (o - L) (by omega : (o : Int) - (L : Int) = ((o - L : Nat) : Int)) (by omega)
        have w6 := iwn (a + (o - L)) (by omega : (a : Int) + ((o - L : Nat) : Int) = ((a + (o - L) : Nat) : Int)) (by omega)
        have bO : ((a + (o - L) : Nat) : Int) < (d.size : Int) := by omega
        obtain ⟨g3, g4, l1, s1, l2, s2⟩ := swp_cells tl (show a + q * 2 - 1 + t < x.size by omega) (show a + (o - L) < x.size by omega)
        simp only [go_sem, Nat.reduceAdd, Nat.reduceLT, Nat.reduceEqDiff, Nat.reduceBEq, Nat.reduceLeDiff, Nat.reduceSub, Int.reduceToNat, reduceCtorEq, ↓reduceIte, f2, decide_true, w5, w6, a5, bI, bO, g3, g4, l1, s1, l2, s2, Int.natCast_nonneg, Int.toNat_natCast, Nat.zero_add, Nat.mul_one, swp_def]
        exact ⟨m - 1, by omega, t + 1, xorNext r, _, by rw [swp_size, hx], by omega, by omega, hbs.symm, rfl⟩
      · have f2 : ((L : Int) ≤ (o : Int)) = False := eq_false (by omega)
        rw [if_neg ho] at hbs
        have w6 := iwn (a + o) (by omega : (a : Int) + (o : Int) = ((a + o : Nat) : Int)) (by omega)
        have bO : ((a + o : Nat) : Int) < (d.size : Int) := by omega
        obtain ⟨g3, g4, l1, s1, l2, s2⟩ := swp_cells tl (show a + q * 2 - 1 + t < x.size by omega) (show a + o < x.size by omega)
        simp only [go_sem, Nat.reduceAdd, Nat.reduceLT, Nat.reduceEqDiff, Nat.reduceBEq, Nat.reduceLeDiff, Nat.reduceSub, Int.reduceToNat, reduceCtorEq, ↓reduceIte, f2, decide_false, w6, a5, bI, bO, g3, g4, l1, s1, l2, s2, Int.natCast_nonneg, Int.toNat_natCast, Nat.zero_add, Nat.mul_one, swp_def]
        exact ⟨m - 1, by omega, t + 1, xorNext r, _, by rw [swp_size, hx], by omega, by omega, hbs.symm, rfl⟩
    · have e : t = 3 := by omega
      subst e
      have f1 : (((a + q * 2 - 1 + 3 : Nat) : Int) ≤ ((a + q * 2 + 1 : Nat) : Int)) = False := eq_false (by omega)
      have hr' : bpR a L M (a + q * 2 - 1) 3 0 (UInt64.ofNat L, d) = x := by rw [← hr]; rfl
      simp only [go_sem, Nat.reduceAdd, Nat.reduceLT, Nat.reduceEqDiff, Nat.reduceBEq, Nat.reduceLeDiff, Nat.reduceSub, Int.reduceToNat, reduceCtorEq, ↓reduceIte, wq, w2, m2, a2, a3, a4, f1, decide_false, show ((4 : Int) == 0) = false from rfl, endM_n, endM_r, hr', retC_7 ht, and_self]

end Go.Proofs.Ytmjmfollimaleaa.VL
