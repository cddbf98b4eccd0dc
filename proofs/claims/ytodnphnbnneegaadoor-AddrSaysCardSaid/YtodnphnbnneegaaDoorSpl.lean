/- Texts cut at a byte: plain laws. -/
import Derived.Test.YtodnphnbnneegaaDoorAddr6
set_option linter.unusedVariables false
set_option linter.unusedSimpArgs false
namespace Go.Proofs.YtodnphnbnneegaaDoor.VL
open Go.RowKit Go.Proofs

/-- A text's parts between a byte. -/
def spl (c : UInt8) : List UInt8 → List (List UInt8)
  | [] => [[]]
  | b :: l => if b = c then [] :: spl c l else match spl c l with
    | h :: t => (b :: h) :: t
    | [] => [[b]]

theorem spl_ne (c : UInt8) (l : List UInt8) : spl c l ≠ [] := by
  cases l with
  | nil => simp [spl]
  | cons b l =>
    simp only [spl]
    split
    · simp
    · split <;> simp

theorem index_eq (c : UInt8) (l : List UInt8) : Lib.index (c :: l) [c] = 0 := by rw [Lib.index]; simp [List.isPrefixOf]
theorem index_ne (b c : UInt8) (l : List UInt8) (h : b ≠ c) : Lib.index (b :: l) [c] = if Lib.index l [c] = -1 then -1 else Lib.index l [c] + 1 := by
  have hp : ([c] : List UInt8).isPrefixOf (b :: l) = false := by simp [List.isPrefixOf, Ne.symm h]
  rw [Lib.index, hp]
  simp

theorem splitK_spl (c : UInt8) : ∀ l : List UInt8, Lib.splitK [c] 0 (Lib.count l [c]) l = spl c l
  | [] => by
    rw [Lib.count_miss (by simp [Lib.index])]
    rfl
  | b :: l => by
    have ih := splitK_spl c l
    by_cases h : b = c
    · subst h
      rw [Lib.count_cons_eq, Nat.add_comm, Lib.splitK, index_eq]
      simp [spl, ih]
    · rw [Lib.count_cons_ne b c l h]
      simp only [spl, if_neg h, ← ih]
      by_cases hm : Lib.index l [c] = -1
      · rw [Lib.count_miss hm]
        rfl
      · have hge := Lib.index_ge l [c]
        obtain ⟨j, hj⟩ : ∃ j : Nat, Lib.index l [c] = j := ⟨(Lib.index l [c]).toNat, by omega⟩
        have hc := Lib.count_hit (s := l) (sub := [c]) (by simp) hj
        rw [hc, Nat.add_comm, Lib.splitK, Lib.splitK, index_ne b c l h, hj]
        have e1 : ¬ (j : Int) = -1 := by omega
        have e2 : ((j : Int) == -1) = false := by simp [e1]
        have e3 : (((j : Int) + 1) == -1) = false := by simp; omega
        have e4 : ((j : Int) + 1).toNat = j + 1 := by omega
        simp [e1, e2, e3, e4]

def toB (l : List UInt8) : ByteArray := ⟨l.toArray⟩
theorem toB_data (s : ByteArray) : toB s.data.toList = s := by simp [toB]
theorem data_toB (l : List UInt8) : (toB l).data.toList = l := by simp [toB]
theorem map_toB (l : List ByteArray) : (l.map (·.data.toList)).map toB = l := by
  rw [List.map_map]
  conv => rhs; rw [← List.map_id l]
  exact List.map_congr_left fun x _ => toB_data x

theorem parts_spl (s : ByteArray) (c : UInt8) : parts s c = (spl c s.data.toList).map toB := by
  have h := Lib.splitB_data ⟨#[c]⟩ 0 (Lib.countB s ⟨#[c]⟩) s
  rw [show (⟨#[c]⟩ : ByteArray).data.toList = [c] from rfl, show Lib.countB s ⟨#[c]⟩ = Lib.count s.data.toList [c] from rfl, splitK_spl] at h
  rw [← h, map_toB]
  rfl

theorem spl_app (c : UInt8) (r : List UInt8) : ∀ d : List UInt8, (∀ x ∈ d, x ≠ c) → spl c (d ++ c :: r) = d :: spl c r
  | [], _ => by simp [spl]
  | b :: d, h => by
    rw [List.cons_append, spl, if_neg (h b List.mem_cons_self), spl_app c r d fun x hx => h x (List.mem_cons_of_mem _ hx)]
theorem spl_one (c : UInt8) : ∀ d : List UInt8, (∀ x ∈ d, x ≠ c) → spl c d = [d]
  | [], _ => rfl
  | b :: d, h => by rw [spl, if_neg (h b List.mem_cons_self), spl_one c d fun x hx => h x (List.mem_cons_of_mem _ hx)]

theorem index_app (c : UInt8) (r : List UInt8) : ∀ d : List UInt8, (∀ x ∈ d, x ≠ c) → Lib.index (d ++ c :: r) [c] = d.length
  | [], _ => by rw [List.nil_append, index_eq]; rfl
  | b :: d, h => by
    rw [List.cons_append, index_ne b c _ (h b List.mem_cons_self), index_app c r d fun x hx => h x (List.mem_cons_of_mem _ hx)]
    rw [if_neg (by omega)]
    simp
theorem index_no (c : UInt8) : ∀ d : List UInt8, (∀ x ∈ d, x ≠ c) → Lib.index d [c] = -1
  | [], _ => by simp [Lib.index]
  | b :: d, h => by
    rw [index_ne b c _ (h b List.mem_cons_self), index_no c d fun x hx => h x (List.mem_cons_of_mem _ hx)]
    rfl
theorem cut_app (c : UInt8) (d r : List UInt8) (h : ∀ x ∈ d, x ≠ c) : Lib.cut (d ++ c :: r) [c] = (d, r, true) := by
  unfold Lib.cut
  rw [index_app c r d h, if_pos (by omega)]
  simp
theorem cut_no (c : UInt8) (d : List UInt8) (h : ∀ x ∈ d, x ≠ c) : Lib.cut d [c] = (d, [], false) := by
  unfold Lib.cut
  rw [index_no c d h, if_neg (by omega)]

/-! ### Numerals below 256 -/
theorem dec_tab : ((List.range 256).all fun n => (Lib.decDigits n).all (fun b => decide (48 ≤ b.toNat) && decide (b.toNat ≤ 57)) && decide (Lib.atoiAll (Lib.decDigits n) = .ok (n : Int))) = true := by decide +kernel
theorem dec_row (n : Nat) (h : n < 256) : (∀ b ∈ Lib.decDigits n, 48 ≤ b.toNat ∧ b.toNat ≤ 57) ∧ Lib.atoiAll (Lib.decDigits n) = .ok (n : Int) := by
  have := dec_tab
  simp only [List.all_eq_true, List.mem_range, Bool.and_eq_true, decide_eq_true_eq] at this
  exact this n h
theorem dec_ne (n : Nat) (h : n < 256) (c : UInt8) (hc : c.toNat < 48) : ∀ x ∈ Lib.decDigits n, x ≠ c := fun x hx e => by
  have := (dec_row n h).1 x hx
  subst e
  omega

theorem numV_dec (n most : Nat) (h : n < 256) (hm : n ≤ most) : numV (decB n) (most : Nat) = ((n : Int), true) := by
  have h3 := dec_len n h
  unfold numV
  rw [if_neg (by show ¬ 3 < (Lib.decDigits n).toArray.size; simpa using h3)]
  have e : (decB n).data.toList = Lib.decDigits n := by simp [decB]
  simp only [e, (dec_row n h).2, itoaB, Int.toNat_natCast]
  simp
  exact_mod_cast hm

theorem textB_data (b : Nat → Nat) : (textB b).data.toList = Lib.decDigits (b 0) ++ 46 :: (Lib.decDigits (b 1) ++ 46 :: (Lib.decDigits (b 2) ++ 46 :: Lib.decDigits (b 3))) := by
  simp [textB, joinDot, byT, decB, Lib.join, List.intercalate, List.intersperse]

theorem parts_text (b : Nat → Nat) (hb : ∀ i, i < 4 → b i < 256) : parts (textB b) 46 = [decB (b 0), decB (b 1), decB (b 2), decB (b 3)] := by
  rw [parts_spl, textB_data, spl_app _ _ _ (dec_ne _ (hb 0 (by decide)) _ (by decide)), spl_app _ _ _ (dec_ne _ (hb 1 (by decide)) _ (by decide)), spl_app _ _ _ (dec_ne _ (hb 2 (by decide)) _ (by decide)), spl_one _ _ (dec_ne _ (hb 3 (by decide)) _ (by decide))]
  rfl

theorem parseP_text (a : Nat) (ha : a < 4294967296) : parseP (parts (textB (bytN a)) 46) = (a, true) := by
  rw [parts_text _ fun i _ => bytN_lt a i]
  have e := fun i => numV_dec (bytN a i) 255 (bytN_lt a i) (by have := bytN_lt a i; omega)
  have e0 := e 0
  have e1 := e 1
  have e2 := e 2
  have e3 := e 3
  simp only [parseP]
  rw [show ((255 : Nat) : Int) = 255 from rfl] at e0 e1 e2 e3
  simp only [e0, e1, e2, e3, if_true]
  have h : ofB (pB (decB (bytN a 0)) (decB (bytN a 1)) (decB (bytN a 2)) (decB (bytN a 3))) 4 = ofB (bytN a) 4 := by
    simp only [ofB, pB, e0, e1, e2, e3, Int.toNat_natCast]
  rw [h, ofB_bytN a ha]

theorem text_ne47 (a : Nat) : ∀ x ∈ (textB (bytN a)).data.toList, x ≠ 47 := by
  intro x hx
  have d := fun i => dec_ne (bytN a i) (bytN_lt a i) 47 (by decide)
  rw [textB_data] at hx
  simp only [List.mem_append, List.mem_cons] at hx
  rcases hx with h | rfl | h | rfl | h | rfl | h
  · exact d 0 x h
  · decide
  · exact d 1 x h
  · decide
  · exact d 2 x h
  · decide
  · exact d 3 x h

theorem pfx_text (a b : Nat) (ha : a < 4294967296) (hb : b ≤ 32) (hv : validN a (b : Nat) = true) : pfxV (catB (catB (textB (bytN a)) ⟨#[47]⟩) (decB b)) = ((a, (b : Int)), true) := by
  have e : (catB (catB (textB (bytN a)) ⟨#[47]⟩) (decB b)).data.toList = (textB (bytN a)).data.toList ++ 47 :: Lib.decDigits b := by
    simp [catB, decB, ByteArray.data_append]
  have hc := cut_app 47 (textB (bytN a)).data.toList (Lib.decDigits b) (text_ne47 a)
  have hx : cutX (catB (catB (textB (bytN a)) ⟨#[47]⟩) (decB b)) = textB (bytN a) := by
    unfold cutX
    rw [e, hc]
  have hy : cutY (catB (catB (textB (bytN a)) ⟨#[47]⟩) (decB b)) = decB b := by
    unfold cutY
    rw [e, hc]
    rfl
  unfold pfxV
  have hn := numV_dec b 32 (by omega) hb
  rw [show ((32 : Nat) : Int) = 32 from rfl] at hn
  rw [hx, hy, parseP_text a ha, hn]
  simp only [hv, if_true]

end Go.Proofs.YtodnphnbnneegaaDoor.VL
