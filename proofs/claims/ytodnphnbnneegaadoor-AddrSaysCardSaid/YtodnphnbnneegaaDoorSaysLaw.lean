/- AddrSays: the plain law: the two readings of a text agree. -/
import Derived.Test.YtodnphnbnneegaaDoorRefPfx
set_option linter.unusedVariables false
set_option linter.unusedSimpArgs false
namespace Go.Proofs.YtodnphnbnneegaaDoor.VL
open Go.RowKit Go.Proofs

theorem dec_step (m d : Nat) (hm : 0 < m) (hd : d < 10) : Lib.decDigits (10 * m + d) = Lib.decDigits m ++ [UInt8.ofNat (48 + d)] := by
  rw [Lib.decDigits, dif_neg (by omega), show (10 * m + d) / 10 = m by omega, show (10 * m + d) % 10 = d by omega]
theorem dec_small (d : Nat) (hd : d < 10) : Lib.decDigits d = [UInt8.ofNat (48 + d)] := by
  rw [Lib.decDigits, dif_pos hd]
theorem byte_of (b : UInt8) (h : 48 ≤ b.toNat) : UInt8.ofNat (48 + (b.toNat - 48)) = b := by
  rw [show 48 + (b.toNat - 48) = b.toNat by omega]
  exact UInt8.ofNat_toNat

theorem rNumGo_dec : ∀ (l : List UInt8) (n : Nat), 0 < n → 0 ≤ rNumGo n l → Lib.decDigits (rNumGo n l).toNat = Lib.decDigits n ++ l
  | [], n, _, _ => by simp [rNumGo]
  | b :: r, n, hn, h => by
    rw [rNumGo] at h ⊢
    split at h
    · exact absurd h (by decide)
    rename_i h1
    split at h
    · exact absurd h (by decide)
    rename_i h2
    rw [if_neg h1, if_neg h2, rNumGo_dec r _ (by omega) h, dec_step n _ hn (by omega), byte_of b (by omega)]
    simp

theorem rNum_dec (l : List UInt8) (d : Nat) (h : 0 ≤ rNum l d) : l = Lib.decDigits (rNum l d).toNat := by
  unfold rNum at h ⊢
  split at h
  · exact absurd h (by decide)
  rename_i h1
  split at h
  · exact absurd h (by decide)
  rename_i h2
  split at h
  · exact absurd h (by decide)
  rename_i h3
  rw [if_neg h1, if_neg h2, if_neg h3]
  match l, h1 with
  | b :: r, _ =>
    rw [rNumGo] at h ⊢
    split at h
    · exact absurd h (by decide)
    rename_i g1
    split at h
    · exact absurd h (by decide)
    rename_i g2
    rw [if_neg g1, if_neg g2]
    cases r with
    | nil =>
      simp only [rNumGo, Nat.mul_zero, Nat.zero_add, Int.toNat_natCast]
      rw [dec_small _ (by omega), byte_of b (by omega)]
    | cons c r =>
      have hb : b ≠ 48 := fun e => h3 ⟨by rw [e]; rfl, by simp⟩
      have hb' : b.toNat ≠ 48 := fun e => hb (UInt8.toNat_inj.1 (by rw [e]; rfl))
      rw [rNumGo_dec (c :: r) _ (by omega) h, Nat.mul_zero, Nat.zero_add, dec_small _ (by omega), byte_of b (by omega)]
      rfl
  | [], h => exact absurd (by decide) h

theorem tab3 : ((List.range 256).all fun n => decide (rNum (Lib.decDigits n) 3 = (n : Int))) = true := by decide +kernel
theorem tab2 : ((List.range 33).all fun n => decide (rNum (Lib.decDigits n) 2 = (n : Int))) = true := by decide +kernel
theorem row3 (n : Nat) (h : n ≤ 255) : rNum (Lib.decDigits n) 3 = n := by
  have := tab3
  simp only [List.all_eq_true, List.mem_range, decide_eq_true_eq] at this
  exact this n (by omega)
theorem row2 (n : Nat) (h : n ≤ 32) : rNum (Lib.decDigits n) 2 = n := by
  have := tab2
  simp only [List.all_eq_true, List.mem_range, decide_eq_true_eq] at this
  exact this n (by omega)

theorem num_iff (s : ByteArray) (most d : Nat) (hm : most ≤ 255) (tab : ∀ n, n ≤ most → rNum (Lib.decDigits n) d = (n : Int)) :
    ((numV s (most : Nat)).2 = true ↔ 0 ≤ rNum s.data.toList d ∧ rNum s.data.toList d ≤ most) ∧ ((numV s (most : Nat)).2 = true → (numV s (most : Nat)).1 = rNum s.data.toList d) := by
  have fwd : (numV s (most : Nat)).2 = true → (numV s (most : Nat)).1 = rNum s.data.toList d ∧ 0 ≤ (numV s (most : Nat)).1 ∧ (numV s (most : Nat)).1 ≤ most := by
    intro h
    obtain ⟨h0, h1, h2, _⟩ := numV_ok h
    refine ⟨?_, h0, h1⟩
    have e : s.data.toList = Lib.decDigits (numV s (most : Nat)).1.toNat := by
      conv => lhs; rw [h2]
      simp [decB]
    rw [e, tab _ (by omega), Int.toNat_of_nonneg h0]
  refine ⟨⟨fun h => ?_, fun ⟨h0, h1⟩ => ?_⟩, fun h => (fwd h).1⟩
  · obtain ⟨h1, h2, h3⟩ := fwd h
    rw [← h1]
    exact ⟨h2, h3⟩
  · have e := rNum_dec _ _ h0
    have hs : s = decB (rNum s.data.toList d).toNat := by
      rw [← toB_data s]
      conv => lhs; rw [e]
      simp [toB, decB]
    generalize rNum s.data.toList d = r at h0 h1 hs
    rw [hs, numV_dec r.toNat most (by omega) (by omega)]

/-! ### Parts -/
def bad3 (p : List UInt8) : Bool := decide (rNum p 3 < 0) || decide (255 < rNum p 3)
def rP : List (List UInt8) → Nat → Nat → Nat × Bool
  | [], _, _ => (0, false)
  | p :: ps, a, k => if rNum p 3 < 0 then (0, false) else if 255 < rNum p 3 then (0, false) else if k = 4 then (0, false) else match ps with
    | [] => if k + 1 = 4 then (a * 256 + (rNum p 3).toNat, true) else (0, false)
    | q :: r => rP (q :: r) (a * 256 + (rNum p 3).toNat) (k + 1)
def cHead (cur : List UInt8) : List (List UInt8) → List (List UInt8)
  | [] => [cur]
  | h :: t => (cur ++ h) :: t

theorem rGo_parts : ∀ (rest cur : List UInt8) (a k : Nat), rGo cur rest a k = rP (cHead cur (spl 46 rest)) a k
  | [], cur, a, k => by simp [rGo, spl, cHead, rP]
  | b :: r, cur, a, k => by
    rw [rGo, spl]
    by_cases hb : b = 46
    · rw [if_pos hb, if_pos hb, rGo_parts r [] _ (k + 1)]
      have hne := spl_ne 46 r
      cases hsp : spl 46 r with
      | nil => exact absurd hsp hne
      | cons q ps => simp [cHead, rP]
    · rw [if_neg hb, if_neg hb, rGo_parts r (cur ++ [b]) a k]
      have hne := spl_ne 46 r
      cases hsp : spl 46 r with
      | nil => exact absurd hsp hne
      | cons q ps => simp [cHead]

theorem rP_len : ∀ (ps : List (List UInt8)) (a k : Nat), k ≤ 4 → ps.length + k ≠ 4 → rP ps a k = (0, false)
  | [], _, _, _, _ => rfl
  | [p], a, k, hk, h => by
    simp only [List.length_cons, List.length_nil] at h
    rw [rP]
    repeat' split
    all_goals first | rfl | omega
  | p :: q :: r, a, k, hk, h => by
    simp only [List.length_cons] at h
    rw [rP]
    repeat' split
    all_goals first | rfl | exact rP_len (q :: r) _ (k + 1) (by omega) (by simp only [List.length_cons]; omega)

theorem parse_parts (ps : List (List UInt8)) : parseP (ps.map toB) = rP ps 0 0 := by
  by_cases hl : ps.length = 4
  · match ps, hl with
    | [p0, p1, p2, p3], _ =>
      have n0 := num_iff (toB p0) 255 3 (by omega) row3
      have n1 := num_iff (toB p1) 255 3 (by omega) row3
      have n2 := num_iff (toB p2) 255 3 (by omega) row3
      have n3 := num_iff (toB p3) 255 3 (by omega) row3
      rw [data_toB, show ((255 : Nat) : Int) = 255 from rfl] at n0 n1 n2 n3
      simp only [List.map_cons, List.map_nil, parseP, rP, if_neg (show ¬ (0 : Nat) = 4 by decide), if_neg (show ¬ (0 + 1 : Nat) = 4 by decide), if_neg (show ¬ (0 + 1 + 1 : Nat) = 4 by decide), if_neg (show ¬ (0 + 1 + 1 + 1 : Nat) = 4 by decide), if_pos (show (0 + 1 + 1 + 1 + 1 : Nat) = 4 by decide)]
      have step : ∀ {p : List UInt8} {x y : Nat × Bool}, (((numV (toB p) 255).2 = true ↔ 0 ≤ rNum p 3 ∧ rNum p 3 ≤ 255) ∧ ((numV (toB p) 255).2 = true → (numV (toB p) 255).1 = rNum p 3)) → ((numV (toB p) 255).2 = true → (numV (toB p) 255).1 = rNum p 3 → x = y) →
          (if (numV (toB p) 255).2 = true then x else (0, false)) = (if rNum p 3 < 0 then (0, false) else if 255 < rNum p 3 then (0, false) else y) := by
        intro p x y hn hxy
        by_cases h : (numV (toB p) 255).2 = true
        · obtain ⟨h1, h2⟩ := hn.1.1 h
          rw [if_pos h, if_neg (by omega), if_neg (by omega)]
          exact hxy h (hn.2 h)
        · rw [if_neg h]
          have : ¬ (0 ≤ rNum p 3 ∧ rNum p 3 ≤ 255) := fun h' => h (hn.1.2 h')
          by_cases g : rNum p 3 < 0
          · rw [if_pos g]
          · rw [if_neg g, if_pos (by omega)]
      refine step n0 fun _ e0 => ?_
      refine step n1 fun _ e1 => ?_
      refine step n2 fun _ e2 => ?_
      refine step n3 fun _ e3 => ?_
      simp only [ofB, pB, e0, e1, e2, e3, if_true]
  · rw [rP_len ps 0 0 (by omega) (by omega)]
    unfold parseP
    split
    · rename_i p0 p1 p2 p3 e
      have := congrArg List.length e
      simp at this
      omega
    · rfl

theorem parse_eq (s : ByteArray) : rParse s.data.toList = parseP (parts s 46) := by
  rw [parts_spl, parse_parts, rParse, rGo_parts]
  congr 1
  cases h : spl 46 s.data.toList with
  | nil => exact absurd h (spl_ne _ _)
  | cons q r => simp [cHead]

/-! ### Prefixes -/
theorem rPG_app (r : List UInt8) : ∀ (d pre : List UInt8), (∀ x ∈ d, x ≠ 47) → rPG pre (d ++ 47 :: r) = rPF (pre ++ d) r
  | [], pre, _ => by simp [rPG]
  | b :: d, pre, h => by
    rw [List.cons_append, rPG, if_neg (h b List.mem_cons_self), rPG_app r d (pre ++ [b]) fun x hx => h x (List.mem_cons_of_mem _ hx)]
    simp
theorem rPG_no : ∀ (d pre : List UInt8), (∀ x ∈ d, x ≠ 47) → rPG pre d = ((0, 0), false)
  | [], _, _ => rfl
  | b :: d, pre, h => by rw [rPG, if_neg (h b List.mem_cons_self), rPG_no d (pre ++ [b]) fun x hx => h x (List.mem_cons_of_mem _ hx)]

theorem first_of : ∀ l : List UInt8, (47 : UInt8) ∈ l → ∃ d r, l = d ++ 47 :: r ∧ ∀ x ∈ d, x ≠ 47
  | b :: l, h => by
    by_cases hb : b = 47
    · exact ⟨[], l, by rw [hb]; rfl, by simp⟩
    · rcases List.mem_cons.1 h with h | h
      · exact absurd h.symm hb
      · obtain ⟨d, r, rfl, hd⟩ := first_of l h
        exact ⟨b :: d, r, rfl, fun x hx => (List.mem_cons.1 hx).elim (fun e => e ▸ hb) (hd x)⟩

theorem pfx_eq (s : ByteArray) : rPG [] s.data.toList = pfxV s := by
  by_cases h : (47 : UInt8) ∈ s.data.toList
  · obtain ⟨d, r, hl, hd⟩ := first_of _ h
    have hc := cut_app 47 d r hd
    have hx : cutX s = toB d := by unfold cutX; rw [hl, hc]; rfl
    have hy : cutY s = toB r := by unfold cutY; rw [hl, hc]; rfl
    rw [hl, rPG_app r d [] hd, List.nil_append]
    unfold pfxV rPF
    have e := parse_eq (toB d)
    rw [data_toB] at e
    have n := num_iff (toB r) 32 2 (by omega) row2
    rw [data_toB, show ((32 : Nat) : Int) = 32 from rfl] at n
    rw [hx, hy, e]
    by_cases h1 : (parseP (parts (toB d) 46)).2 = true
    · rw [if_pos h1, if_pos h1]
      by_cases h2 : (numV (toB r) 32).2 = true
      · obtain ⟨g1, g2⟩ := n.1.1 h2
        rw [if_pos h2, if_neg (by omega), if_neg (by omega), n.2 h2]
      · rw [if_neg h2]
        have : ¬ (0 ≤ rNum r 2 ∧ rNum r 2 ≤ 32) := fun h' => h2 (n.1.2 h')
        by_cases g : rNum r 2 < 0
        · rw [if_pos g]
        · rw [if_neg g, if_pos (by omega)]
    · rw [if_neg h1, if_neg h1]
  · have hd : ∀ x ∈ s.data.toList, x ≠ 47 := fun x hx e => h (e ▸ hx)
    rw [rPG_no _ _ hd]
    have hy : cutY s = ⟨#[]⟩ := by
      unfold cutY
      rw [cut_no 47 _ hd]
    have hn : (numV ⟨#[]⟩ 32).2 = false := by decide +kernel
    unfold pfxV
    rw [hy, hn]
    split <;> rfl

end Go.Proofs.YtodnphnbnneegaaDoor.VL
