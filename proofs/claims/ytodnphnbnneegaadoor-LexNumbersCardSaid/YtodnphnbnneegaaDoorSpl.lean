/- Texts cut at a byte: plain laws. -/
import Derived.Test.YtodnphnbnneegaaDoorAddr6
set_option linter.unusedVariables false
set_option linter.unusedSimpArgs false
namespace Go.Proofs.YtodnphnbnneegaaDoor.VL
open Go.RowKit Go.Proofs

/-! ### Numerals below 256 -/
theorem dec_tab : ((List.range 256).all fun n => (Lib.decDigits n).all (fun b => decide (48 ≤ b.toNat) && decide (b.toNat ≤ 57)) && decide (Lib.atoiAll (Lib.decDigits n) = .ok (n : Int))) = true := by decide +kernel
theorem dec_row (n : Nat) (h : n < 256) : (∀ b ∈ Lib.decDigits n, 48 ≤ b.toNat ∧ b.toNat ≤ 57) ∧ Lib.atoiAll (Lib.decDigits n) = .ok (n : Int) := by
  have := dec_tab
  simp only [List.all_eq_true, List.mem_range, Bool.and_eq_true, decide_eq_true_eq] at this
  exact this n h
theorem dec_ne (n : Nat) (h : n < 256) (c : UInt8) (hc : c.toNat < 48) : ∀ x ∈ Lib.decDigits n, x ≠ c := fun x hx e => by
  have := (dec_row n h).1 x hx
  subst e
  omega

theorem numV_dec (n most : Nat) (h : n < 256) (hm : n ≤ most) : numV (decB n) (most : Nat) = ((n : Int), true) := by
  have h3 := dec_len n h
  unfold numV
  rw [if_neg (by show ¬ 3 < (Lib.decDigits n).toArray.size; simpa using h3)]
  have e : (decB n).data.toList = Lib.decDigits n := by simp [decB]
  simp only [e, (dec_row n h).2, itoaB, Int.toNat_natCast]
  simp
  exact_mod_cast hm

theorem textB_data (b : Nat → Nat) : (textB b).data.toList = Lib.decDigits (b 0) ++ 46 :: (Lib.decDigits (b 1) ++ 46 :: (Lib.decDigits (b 2) ++ 46 :: Lib.decDigits (b 3))) := by
  simp [textB, joinDot, byT, decB, Lib.join, List.intercalate, List.intersperse]

theorem parts_text (b : Nat → Nat) (hb : ∀ i, i < 4 → b i < 256) : parts (textB b) 46 = [decB (b 0), decB (b 1), decB (b 2), decB (b 3)] := by
  rw [parts_spl, textB_data, spl_app _ _ _ (dec_ne _ (hb 0 (by decide)) _ (by decide)), spl_app _ _ _ (dec_ne _ (hb 1 (by decide)) _ (by decide)), spl_app _ _ _ (dec_ne _ (hb 2 (by decide)) _ (by decide)), spl_one _ _ (dec_ne _ (hb 3 (by decide)) _ (by decide))]
  rfl

theorem parseP_text (a : Nat) (ha : a < 4294967296) : parseP (parts (textB (bytN a)) 46) = (a, true) := by
  rw [parts_text _ fun i _ => bytN_lt a i]
  have e := fun i => numV_dec (bytN a i) 255 (bytN_lt a i) (by have := bytN_lt a i; omega)
  have e0 := e 0
  have e1 := e 1
  have e2 := e 2
  have e3 := e 3
  simp only [parseP]
  rw [show ((255 : Nat) : Int) = 255 from rfl] at e0 e1 e2 e3
  simp only [e0, e1, e2, e3, if_true]
  have h : ofB (pB (decB (bytN a 0)) (decB (bytN a 1)) (decB (bytN a 2)) (decB (bytN a 3))) 4 = ofB (bytN a) 4 := by
    simp only [ofB, pB, e0, e1, e2, e3, Int.toNat_natCast]
  rw [h, ofB_bytN a ha]

theorem text_ne47 (a : Nat) : ∀ x ∈ (textB (bytN a)).data.toList, x ≠ 47 := by
  intro x hx
  have d := fun i => dec_ne (bytN a i) (bytN_lt a i) 47 (by decide)
  rw [textB_data] at hx
  simp only [List.mem_append, List.mem_cons] at hx
  rcases hx with h | rfl | h | rfl | h | rfl | h
  · exact d 0 x h
  · decide
  · exact d 1 x h
  · decide
  · exact d 2 x h
  · decide
  · exact d 3 x h

theorem pfx_text (a b : Nat) (ha : a < 4294967296) (hb : b ≤ 32) (hv : validN a (b : Nat) = true) : pfxV (catB (catB (textB (bytN a)) ⟨#[47]⟩) (decB b)) = ((a, (b : Int)), true) := by
  have e : (catB (catB (textB (bytN a)) ⟨#[47]⟩) (decB b)).data.toList = (textB (bytN a)).data.toList ++ 47 :: Lib.decDigits b := by
    simp [catB, decB, ByteArray.data_append]
  have hc := cut_app 47 (textB (bytN a)).data.toList (Lib.decDigits b) (text_ne47 a)
  have hx : cutX (catB (catB (textB (bytN a)) ⟨#[47]⟩) (decB b)) = textB (bytN a) := by
    unfold cutX
    rw [e, hc]
  have hy : cutY (catB (catB (textB (bytN a)) ⟨#[47]⟩) (decB b)) = decB b := by
    unfold cutY
    rw [e, hc]
    rfl
  unfold pfxV
  have hn := numV_dec b 32 (by omega) hb
  rw [show ((32 : Nat) : Int) = 32 from rfl] at hn
  rw [hx, hy, parseP_text a ha, hn]
  simp only [hv, if_true]

end Go.Proofs.YtodnphnbnneegaaDoor.VL
