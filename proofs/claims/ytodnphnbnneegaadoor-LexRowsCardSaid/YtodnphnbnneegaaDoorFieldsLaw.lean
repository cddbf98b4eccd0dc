/- A line's fields, rune by rune, are its fields byte by byte. -/
import Derived.Test.YtodnphnbnneegaaDoorLex2
set_option linter.unusedVariables false
set_option linter.unusedSimpArgs false
namespace Go.Proofs.YtodnphnbnneegaaDoor.VL
open Go.RowKit Go.Proofs

/-- A byte between words. -/
def spB (b : UInt8) : Bool := b == 32 || (b == 9 || b == 13)
/-- The words of bytes, the word so far ahead. -/
def fB : List UInt8 → List UInt8 → List (List UInt8)
  | [], cur => if cur = [] then [] else [cur]
  | b :: r, cur => if spB b = true then (if cur = [] then fB r [] else cur :: fB r []) else fB r (cur ++ [b])

theorem fB_run (r : List UInt8) : ∀ (d cur : List UInt8), (∀ x ∈ d, spB x = false) → fB (d ++ r) cur = fB r (cur ++ d)
  | [], cur, _ => by simp
  | b :: d, cur, h => by
    rw [List.cons_append, fB, if_neg (by simp [h b List.mem_cons_self]), fB_run r d (cur ++ [b]) fun x hx => h x (List.mem_cons_of_mem _ hx)]
    simp

theorem get_list (s : ByteArray) (k : Nat) (b : UInt8) (h : s.data.toList[k]? = some b) : s.get! k = b := by
  have hk : k < s.data.size := by simpa using (List.getElem?_eq_some_iff.1 h).1
  have h2 := (List.getElem?_eq_some_iff.1 h).2
  rw [ByteArray.get!]
  simp only [Array.getElem!_eq_getD, Array.getD, hk, dif_pos]
  simpa using h2

theorem spB_hi (b : UInt8) (h : 128 ≤ b.toNat) : spB b = false := by
  cases hs : spB b with
  | false => rfl
  | true =>
    simp only [spB, Bool.or_eq_true, beq_iff_eq] at hs
    rcases hs with rfl | rfl | rfl <;> exact absurd h (by decide)
theorem spaceP_hi (x : Nat) (h : 128 ≤ x) : spaceP x = false := by
  simp only [spaceP, Bool.or_eq_false_iff, beq_eq_false_iff_ne, ne_eq]
  omega
theorem space_lo (b : UInt8) : spaceP b.toNat = spB b := by
  rw [Bool.eq_iff_iff]
  simp only [spaceP, spB, Bool.or_eq_true, beq_iff_eq]
  constructor
  · rintro (h | h | h)
    · exact .inl (UInt8.toNat_inj.1 h)
    · exact .inr (.inl (UInt8.toNat_inj.1 h))
    · exact .inr (.inr (UInt8.toNat_inj.1 h))
  · rintro (rfl | rfl | rfl)
    · exact .inl rfl
    · exact .inr (.inl rfl)
    · exact .inr (.inr rfl)

/-- What a rune at a place is, and how wide. -/
theorem decode_byte (s : ByteArray) (pos : Nat) (b : UInt8) (h : s.data.toList[pos]? = some b) :
    (spB b = true → Utf8.decode s pos = (b.toNat, 1) ∧ spaceP b.toNat = true) ∧
    (spB b = false → spaceP (Utf8.decode s pos).1 = false ∧ 1 ≤ (Utf8.decode s pos).2 ∧ pos + (Utf8.decode s pos).2 ≤ s.data.toList.length ∧ ∀ x ∈ (s.data.toList.drop pos).take (Utf8.decode s pos).2, spB x = false) := by
  have hsz : s.size = s.data.toList.length := Lib.size_eq s
  have hpos : pos < s.data.toList.length := (List.getElem?_eq_some_iff.1 h).1
  have h0 : (s.get! (pos + 0)).toNat = b.toNat := by rw [Nat.add_zero, get_list s pos b h]
  have win : ∀ (w : Nat), (∀ j, j < w → pos + j < s.data.toList.length ∧ spB (s.get! (pos + j)) = false) → ∀ x ∈ (s.data.toList.drop pos).take w, spB x = false := by
    intro w hw x hx
    obtain ⟨j, hj⟩ := List.getElem?_of_mem hx
    rw [List.getElem?_take] at hj
    split at hj
    · rename_i hjw
      rw [List.getElem?_drop] at hj
      have := hw j hjw
      rw [get_list s _ _ hj] at this
      exact this.2
    · cases hj
  have first : spB b = false → spB (s.get! (pos + 0)) = false := fun h1 => by rw [Nat.add_zero, get_list s pos b h]; exact h1
  have one : spB b = false → ∀ x ∈ (s.data.toList.drop pos).take 1, spB x = false := fun h1 => win 1 fun j hj => by
    have : j = 0 := by omega
    subst this
    exact ⟨hpos, first h1⟩
  refine ⟨fun hs => ?_, fun hs => ?_⟩
  · have hlt : b.toNat < 128 := by
      rcases Nat.lt_or_ge b.toNat 128 with h1 | h1
      · exact h1
      · rw [spB_hi b h1] at hs; cases hs
    refine ⟨?_, by rw [space_lo]; exact hs⟩
    unfold Utf8.decode
    simp only [h0]
    rw [if_pos hlt]
  · unfold Utf8.decode
    simp only [h0]
    split
    · exact ⟨by rw [space_lo]; exact hs, by simp, by simp only; omega, one hs⟩
    rename_i hge
    have cont : ∀ k, (decide (pos + k < s.size) && (s.get! (pos + k)).toNat / 64 == 2) = true → pos + k < s.data.toList.length ∧ spB (s.get! (pos + k)) = false := by
      intro k hk
      simp only [Bool.and_eq_true, decide_eq_true_eq, beq_iff_eq] at hk
      exact ⟨by omega, spB_hi _ (by omega)⟩
    have bad : spaceP (Utf8.runeError, 1).1 = false ∧ 1 ≤ (Utf8.runeError, 1).2 ∧ pos + (Utf8.runeError, 1).2 ≤ s.data.toList.length ∧ ∀ x ∈ (s.data.toList.drop pos).take (Utf8.runeError, 1).2, spB x = false :=
      ⟨by decide, by simp, by simp only; omega, one hs⟩
    split
    · rename_i hc
      rw [Bool.and_eq_true] at hc
      split
      · rename_i hv
        refine ⟨spaceP_hi _ hv, by simp, ?_, win 2 fun j hj => ?_⟩
        · have := (cont 1 hc.2).1
          simp only
          omega
        · rcases (show j = 0 ∨ j = 1 by omega) with rfl | rfl
          · exact ⟨hpos, first hs⟩
          · exact cont 1 hc.2
      · exact bad
    split
    · rename_i hc
      rw [Bool.and_eq_true, Bool.and_eq_true] at hc
      split
      · rename_i hv
        rw [Bool.and_eq_true] at hv
        refine ⟨spaceP_hi _ (by have := of_decide_eq_true hv.1; omega), by simp, ?_, win 3 fun j hj => ?_⟩
        · have := (cont 2 hc.2).1
          simp only
          omega
        · rcases (show j = 0 ∨ j = 1 ∨ j = 2 by omega) with rfl | rfl | rfl
          · exact ⟨hpos, first hs⟩
          · exact cont 1 hc.1.2
          · exact cont 2 hc.2
      · exact bad
    split
    · rename_i hc
      rw [Bool.and_eq_true, Bool.and_eq_true, Bool.and_eq_true] at hc
      split
      · rename_i hv
        rw [Bool.and_eq_true] at hv
        refine ⟨spaceP_hi _ (by have := of_decide_eq_true hv.1; omega), by simp, ?_, win 4 fun j hj => ?_⟩
        · have := (cont 3 hc.2).1
          simp only
          omega
        · rcases (show j = 0 ∨ j = 1 ∨ j = 2 ∨ j = 3 by omega) with rfl | rfl | rfl | rfl
          · exact ⟨hpos, first hs⟩
          · exact cont 1 hc.1.1.2
          · exact cont 2 hc.1.2
          · exact cont 3 hc.2
      · exact bad
    · exact bad

end Go.Proofs.YtodnphnbnneegaaDoor.VL
