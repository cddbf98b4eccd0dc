/- Numerals: plain laws. -/
import Derived.Test.YtodnphnbnneegaaDoorAddr3
import Derived.Test.YtodnphnbnneegaaDoorRefNum
import Derived.Lib.AtoiAllCases
set_option linter.unusedVariables false
set_option linter.unusedSimpArgs false
namespace Go.Proofs.YtodnphnbnneegaaDoor.VL
open Go.RowKit Go.Proofs

theorem dd_small (d : Nat) (hd : d < 10) : Lib.decDigits d = [UInt8.ofNat (48 + d)] := by
  rw [Lib.decDigits, dif_pos hd]
theorem dd_big (n : Nat) (h : ¬ n < 10) : Lib.decDigits n = Lib.decDigits (n / 10) ++ [UInt8.ofNat (48 + n % 10)] := by
  rw [Lib.decDigits, dif_neg h]
theorem dig_toNat (d : Nat) (hd : d < 10) : (UInt8.ofNat (48 + d)).toNat = 48 + d := by simp; omega

theorem dd_digits : ∀ (n : Nat), ∀ b ∈ Lib.decDigits n, 48 ≤ b.toNat ∧ b.toNat ≤ 57 := by
  intro n
  induction n using Nat.strongRecOn with
  | ind n ih =>
    by_cases h : n < 10
    · rw [dd_small n h]
      intro b hb
      rw [List.mem_singleton] at hb
      subst hb
      rw [dig_toNat n h]
      omega
    · rw [dd_big n h]
      intro b hb
      rcases List.mem_append.1 hb with hb | hb
      · exact ih (n / 10) (by omega) b hb
      · rw [List.mem_singleton] at hb
        subst hb
        rw [dig_toNat _ (by omega)]
        omega
theorem dd_ne (n : Nat) : Lib.decDigits n ≠ [] := by
  by_cases h : n < 10
  · rw [dd_small n h]; simp
  · rw [dd_big n h]; simp

theorem dd_zero (n : Nat) (h : Lib.decDigits n = [48]) : n = 0 := by
  by_cases h1 : n < 10
  · rw [dd_small n h1] at h
    injection h with h
    have := congrArg UInt8.toNat h
    rw [dig_toNat n h1] at this
    have e : (48 : UInt8).toNat = 48 := rfl
    omega
  · rw [dd_big n h1] at h
    have := congrArg List.length h
    simp only [List.length_append, List.length_cons, List.length_nil] at this
    have h2 := List.length_pos_iff.2 (dd_ne (n / 10))
    omega
theorem dd_lead : ∀ (n : Nat) (l : List UInt8), Lib.decDigits n = 48 :: l → l = [] := by
  intro n
  induction n using Nat.strongRecOn with
  | ind n ih =>
    intro l h
    by_cases h1 : n < 10
    · rw [dd_small n h1] at h
      injection h with _ h
      exact h.symm
    · rw [dd_big n h1] at h
      cases h2 : Lib.decDigits (n / 10) with
      | nil => exact absurd h2 (dd_ne _)
      | cons b r =>
        rw [h2] at h
        injection h with hb hr
        subst hb
        have hr0 := ih (n / 10) (by omega) r h2
        subst hr0
        have := dd_zero _ h2
        omega

theorem parse_dd : ∀ (n : Nat), n < 1000000000000000000 → ∀ r, Lib.parseUint10 0 (Lib.decDigits n ++ r) = Lib.parseUint10 n r := by
  intro n
  induction n using Nat.strongRecOn with
  | ind n ih =>
    intro hn r
    by_cases h : n < 10
    · rw [dd_small n h, List.singleton_append, Lib.parseUint10, dig_toNat n h]
      rw [if_pos (by omega), if_neg (by omega), if_neg (by omega), show 0 * 10 + (48 + n - 48) = n by omega]
    · rw [dd_big n h, List.append_assoc, List.singleton_append, ih (n / 10) (by omega) (by omega), Lib.parseUint10, dig_toNat _ (by omega)]
      rw [if_pos (by omega), if_neg (by omega), if_neg (by omega), show n / 10 * 10 + (48 + n % 10 - 48) = n by omega]

theorem atoi_dd (n : Nat) (hn : n < 1000000000000000000) : Lib.atoiAll (Lib.decDigits n) = .ok (n : Int) := by
  have hp := parse_dd n hn []
  rw [List.append_nil] at hp
  have hd := dd_digits n
  cases h : Lib.decDigits n with
  | nil => exact absurd h (dd_ne n)
  | cons b r =>
    rw [h] at hp hd
    have hb := hd b List.mem_cons_self
    rw [Lib.atoiAll_plain b r (by omega) (by omega)]
    have hm : Lib.parseMag (b :: r) = .ok n := by
      unfold Lib.parseMag
      rw [if_neg (by simp), hp]
      rfl
    rw [hm]
    show (if 9223372036854775808 ≤ n then _ else _) = _
    rw [if_neg (by omega)]

theorem rNumGo_dd : ∀ (n : Nat) (r : List UInt8), rNumGo 0 (Lib.decDigits n ++ r) = rNumGo n r := by
  intro n
  induction n using Nat.strongRecOn with
  | ind n ih =>
    intro r
    by_cases h : n < 10
    · rw [dd_small n h, List.singleton_append, rNumGo, dig_toNat n h, if_neg (by omega), if_neg (by omega), show 10 * 0 + (48 + n - 48) = n by omega]
    · rw [dd_big n h, List.append_assoc, List.singleton_append, ih (n / 10) (by omega), rNumGo, dig_toNat _ (by omega), if_neg (by omega), if_neg (by omega), show 10 * (n / 10) + (48 + n % 10 - 48) = n by omega]

theorem dd_len (n k : Nat) (hk : 0 < k) (h : n < 10 ^ k) : (Lib.decDigits n).length ≤ k := by
  rw [Lib.decDigits_length]
  by_cases h0 : n < 10
  · rw [Lib.nDigits_small h0]; omega
  · by_cases hc : Lib.nDigits n ≤ k
    · exact hc
    · exfalso
      have h1 : 10 ^ k ≤ 10 ^ (Lib.nDigits n - 1) := Nat.pow_le_pow_right (by decide) (by omega)
      have h2 := pow_le_nDigits n (by omega)
      omega
where
  pow_le_nDigits : ∀ (n : Nat), 0 < n → 10 ^ (Lib.nDigits n - 1) ≤ n := by
    intro n
    induction n using Nat.strongRecOn with
    | ind n ih =>
      intro hn
      by_cases h : n < 10
      · rw [Lib.nDigits_small h]
        show 1 ≤ n
        omega
      · rw [Lib.nDigits_big h]
        have h1 := ih (n / 10) (by omega) (by omega)
        have h2 := Lib.nDigits_pos (n / 10)
        have h3 : 10 ^ (Lib.nDigits (n / 10) + 1 - 1) = 10 ^ (Lib.nDigits (n / 10) - 1) * 10 := by
          rw [← Nat.pow_succ]
          congr 1
          omega
        rw [h3]
        omega

theorem rNum_dd (n d : Nat) (hd : 0 < d) (h : n < 10 ^ d) : rNum (Lib.decDigits n) d = (n : Nat) := by
  have hl := dd_len n d hd h
  have h0 := List.length_pos_iff.2 (dd_ne n)
  unfold rNum
  rw [if_neg (by omega), if_neg (by omega)]
  have hgo := rNumGo_dd n []
  rw [List.append_nil] at hgo
  rw [if_neg, hgo, rNumGo]
  rintro ⟨h1, h2⟩
  cases hc : Lib.decDigits n with
  | nil => exact dd_ne n hc
  | cons b r =>
    rw [hc] at h1 h2
    simp only [List.getElem?_cons_zero, Option.some.injEq] at h1
    subst h1
    have := dd_lead n r hc
    subst this
    simp at h2

theorem dd_step (m d : Nat) (hm : 0 < m) (hd : d < 10) : Lib.decDigits (10 * m + d) = Lib.decDigits m ++ [UInt8.ofNat (48 + d)] := by
  rw [Lib.decDigits, dif_neg (by omega), show (10 * m + d) / 10 = m by omega, show (10 * m + d) % 10 = d by omega]
theorem dd_byte (b : UInt8) (h : 48 ≤ b.toNat) : UInt8.ofNat (48 + (b.toNat - 48)) = b := by
  rw [show 48 + (b.toNat - 48) = b.toNat by omega]
  exact UInt8.ofNat_toNat

theorem rNumGo_inv : ∀ (l : List UInt8) (n : Nat), 0 < n → 0 ≤ rNumGo n l → Lib.decDigits (rNumGo n l).toNat = Lib.decDigits n ++ l
  | [], n, _, _ => by simp [rNumGo]
  | b :: r, n, hn, h => by
    rw [rNumGo] at h ⊢
    split at h
    · exact absurd h (by decide)
    rename_i h1
    split at h
    · exact absurd h (by decide)
    rename_i h2
    rw [if_neg h1, if_neg h2, rNumGo_inv r _ (by omega) h, dd_step n _ hn (by omega), dd_byte b (by omega)]
    simp

theorem rNum_inv (l : List UInt8) (d : Nat) (h : 0 ≤ rNum l d) : l = Lib.decDigits (rNum l d).toNat := by
  unfold rNum at h ⊢
  split at h
  · exact absurd h (by decide)
  rename_i h1
  split at h
  · exact absurd h (by decide)
  rename_i h2
  split at h
  · exact absurd h (by decide)
  rename_i h3
  rw [if_neg h1, if_neg h2, if_neg h3]
  match l, h1 with
  | b :: r, _ =>
    rw [rNumGo] at h ⊢
    split at h
    · exact absurd h (by decide)
    rename_i g1
    split at h
    · exact absurd h (by decide)
    rename_i g2
    rw [if_neg g1, if_neg g2]
    cases r with
    | nil =>
      simp only [rNumGo, Nat.mul_zero, Nat.zero_add, Int.toNat_natCast]
      rw [dd_small _ (by omega), dd_byte b (by omega)]
    | cons c r =>
      have hb : b ≠ 48 := fun e => h3 ⟨by rw [e]; rfl, by simp⟩
      have hb' : b.toNat ≠ 48 := fun e => hb (UInt8.toNat_inj.1 (by rw [e]; rfl))
      rw [rNumGo_inv (c :: r) _ (by omega) h, Nat.mul_zero, Nat.zero_add, dd_small _ (by omega), dd_byte b (by omega)]
      rfl
  | [], h => exact absurd (by decide) h


end Go.Proofs.YtodnphnbnneegaaDoor.VL
