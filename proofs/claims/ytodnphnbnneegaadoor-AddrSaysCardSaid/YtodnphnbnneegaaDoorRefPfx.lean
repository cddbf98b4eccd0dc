/- rivuletref1.ParsePrefix, Text: the walks. -/
import Derived.Test.YtodnphnbnneegaaDoorRefParse
import Derived.Test.YtodnphnbnneegaaDoorAddrRef
import Derived.Test.YtodnphnbnneegaaDoorAddrPrefixes
set_option linter.unusedVariables false
set_option linter.unusedSimpArgs false
set_option maxHeartbeats 4000000
namespace Go.Proofs.YtodnphnbnneegaaDoor.VL
open Go.RowKit Go.Proofs

theorem rGo_lt : ∀ (rest cur : List UInt8) (a k : Nat), k ≤ 4 → a < 256 ^ k → (rGo cur rest a k).1 < 4294967296
  | [], cur, a, k, hk, ha => by
    simp only [rGo]
    repeat' split
    all_goals first
      | decide
      | (have h1 : k = 3 := by omega
         subst h1
         simp only [Nat.reducePow] at ha
         show a * 256 + (rNum cur 3).toNat < 4294967296
         omega)
  | b :: r, cur, a, k, hk, ha => by
    simp only [rGo]
    split
    · split
      · decide
      · split
        · decide
        · split
          · decide
          · exact rGo_lt r [] _ (k + 1) (by omega) (by rw [Nat.pow_succ]; omega)
    · exact rGo_lt r _ a k hk ha
theorem rParse_lt (l : List UInt8) : (rParse l).1 < 4294967296 := rGo_lt l [] 0 0 (by omega) (by decide)

def rPF (pre post : List UInt8) : (Nat × Int) × Bool :=
  if (rParse pre).2 = true then if rNum post 2 < 0 then ((0, 0), false) else if 32 < rNum post 2 then ((0, 0), false) else if validN (rParse pre).1 (rNum post 2) = true then (((rParse pre).1, rNum post 2), true) else ((0, 0), false) else ((0, 0), false)
def rPG : List UInt8 → List UInt8 → (Nat × Int) × Bool
  | _, [] => ((0, 0), false)
  | pre, b :: r => if b = 47 then rPF pre r else rPG (pre ++ [b]) r

theorem C_rParsePrefix (s : ByteArray) (hs : s.size ≤ 4611686018427387904) : AC Tryd.prog f_rivuletref1_ParsePrefix [avStr s] (.tup [avPfx (rPG [] s.data.toList).1.1 (rPG [] s.data.toList).1.2, .lit (.bool (rPG [] s.data.toList).2)]) := by
  refine ac_rivuletref1_ParsePrefix ?_ (Nat.le_add_left 1 _)
  have hsz : s.size = s.data.toList.length := Lib.size_eq s
  simp only [go_sem, Nat.reduceAdd, Nat.reduceLT, Nat.reduceEqDiff, Nat.reduceBEq, Nat.reduceLeDiff, Nat.reduceSub, Int.reduceToNat, reduceCtorEq, ↓reduceIte, c_rivuletref1_ParsePrefix, avStr]
  generalize hL : s.data.toList = l at hsz
  have hlen : l.length ≤ 4611686018427387904 := by omega
  refine aw_loop (fun m E => ∃ (i : Nat), i + m = l.length ∧ rPG [] l = rPG (l.take i) (l.drop i) ∧ E = mkE [(0, .lit (.string s)), (2, .lp 2 0), (4, .lit (.int .i64 (i : Nat)))] [(2, [avU 0, .lit (.int .i64 0)])]) l.length ?_ ?_
  · exact ⟨0, by omega, by simp, by simp only [go_sem, Nat.reduceAdd, Nat.reduceLT, Nat.reduceEqDiff, Nat.reduceBEq, Nat.reduceLeDiff, Nat.reduceSub, Int.reduceToNat, reduceCtorEq, ↓reduceIte]; rfl⟩
  · rintro m _ ⟨i, hi, hr, rfl⟩
    by_cases hlt : i < l.length
    · have w1 := wrap_succ i (by omega)
      have f2 : ((i : Int) < (s.size : Int)) = True := eq_true (by omega)
      obtain ⟨b, hb⟩ : ∃ b, l[i]? = some b := ⟨l[i], List.getElem?_eq_getElem hlt⟩
      have ib := avIxs_l s .i64 i b (by rw [hL]; exact hb)
      have hdrop : l.drop i = b :: l.drop (i + 1) := by
        rw [List.drop_eq_getElem_cons hlt]
        congr 1
        exact (List.getElem?_eq_some_iff.1 hb).2
      have hne : (((b.toNat : Nat) : Int) != 47) = !decide (b = 47) := by
        rw [Bool.eq_iff_iff]
        simp only [bne_iff_ne, ne_eq, Bool.not_eq_true', decide_eq_false_iff_not]
        refine not_congr ⟨fun h => UInt8.toNat_inj.1 (by show b.toNat = 47; omega), ?_⟩
        rintro rfl
        rfl
      rw [hdrop, rPG] at hr
      by_cases hb47 : b = 47
      · rw [if_pos hb47, rPF] at hr
        have e47 : decide (b = 47) = true := by simpa using hb47
        have s0 : (0 ≤ (i : Int)) = True := eq_true (by omega)
        have s1 : ((i : Int) ≤ (s.size : Int)) = True := eq_true (by omega)
        have s2 : (0 ≤ ((i + 1 : Nat) : Int)) = True := eq_true (by omega)
        have s3 : (((i + 1 : Nat) : Int) ≤ (s.size : Int)) = True := eq_true (by omega)
        have hP := C_rParse (s.extract 0 i) (by
          have := Lib.size_eq (s.extract 0 i)
          rw [ext_list s 0 i (by omega), hL] at this
          simp only [List.length_take, List.length_drop] at this
          omega)
        rw [ext_list s 0 i (by omega), hL, List.drop_zero, Nat.sub_zero] at hP
        have hN := C_rNumber (s.extract (i + 1) s.size) 2 (by decide)
        rw [ext_list s (i + 1) s.size (by omega), hL, List.take_of_length_le (by simp; omega)] at hN
        have hlp := rParse_lt (l.take i)
        generalize rParse (l.take i) = p at hP hr hlp
        generalize rNum (l.drop (i + 1)) 2 = n at hN hr
        obtain ⟨a, is⟩ := p
        simp only [go_sem, Nat.reduceAdd, Nat.reduceLT, Nat.reduceEqDiff, Nat.reduceBEq, Nat.reduceLeDiff, Nat.reduceSub, Int.reduceToNat, reduceCtorEq, ↓reduceIte, f2, ib, hne, e47, Bool.not_true, decide_true, s0, s1, and_self, c0, Int.toNat_natCast, Int.le_refl]
        refine callX_of hP ?_
        simp only [go_sem, Nat.reduceAdd, Nat.reduceLT, Nat.reduceEqDiff, Nat.reduceBEq, Nat.reduceLeDiff, Nat.reduceSub, Int.reduceToNat, reduceCtorEq, ↓reduceIte, f2, w1, s2, s3, decide_true, and_self, Int.toNat_natCast, Int.le_refl]
        refine callX_of hN ?_
        cases is
        · rw [if_neg (by simp)] at hr
          simp only [go_sem, Nat.reduceAdd, Nat.reduceLT, Nat.reduceEqDiff, Nat.reduceBEq, Nat.reduceLeDiff, Nat.reduceSub, Int.reduceToNat, reduceCtorEq, ↓reduceIte, hr, avU, avPfx, c0]
        · rw [if_pos rfl] at hr
          by_cases n0 : n < 0
          · rw [if_pos n0] at hr
            simp only [go_sem, Nat.reduceAdd, Nat.reduceLT, Nat.reduceEqDiff, Nat.reduceBEq, Nat.reduceLeDiff, Nat.reduceSub, Int.reduceToNat, reduceCtorEq, ↓reduceIte, eq_true n0, decide_true, hr, avU, avPfx, c0]
          · rw [if_neg n0] at hr
            by_cases n1 : 32 < n
            · rw [if_pos n1] at hr
              simp only [go_sem, Nat.reduceAdd, Nat.reduceLT, Nat.reduceEqDiff, Nat.reduceBEq, Nat.reduceLeDiff, Nat.reduceSub, Int.reduceToNat, reduceCtorEq, ↓reduceIte, eq_false n0, eq_true n1, decide_true, decide_false, hr, avU, avPfx, c0]
            · rw [if_neg n1] at hr
              have hV := C_rValid a n hlp
              simp only [avPfx, avU] at hV
              simp only [go_sem, Nat.reduceAdd, Nat.reduceLT, Nat.reduceEqDiff, Nat.reduceBEq, Nat.reduceLeDiff, Nat.reduceSub, Int.reduceToNat, reduceCtorEq, ↓reduceIte, eq_false n0, eq_false n1, decide_true, decide_false, avU, avPfx, c0]
              refine callX_of hV ?_
              cases hv : validN a n
              · rw [if_neg (by simp [hv])] at hr
                simp only [go_sem, Nat.reduceAdd, Nat.reduceLT, Nat.reduceEqDiff, Nat.reduceBEq, Nat.reduceLeDiff, Nat.reduceSub, Int.reduceToNat, reduceCtorEq, ↓reduceIte, hv, hr, avU, avPfx, c0]
              · rw [if_pos hv] at hr
                simp only [go_sem, Nat.reduceAdd, Nat.reduceLT, Nat.reduceEqDiff, Nat.reduceBEq, Nat.reduceLeDiff, Nat.reduceSub, Int.reduceToNat, reduceCtorEq, ↓reduceIte, hv, hr, avU, avPfx, c0]
      · rw [if_neg hb47] at hr
        have e47 : decide (b = 47) = false := by simpa using hb47
        simp only [go_sem, Nat.reduceAdd, Nat.reduceLT, Nat.reduceEqDiff, Nat.reduceBEq, Nat.reduceLeDiff, Nat.reduceSub, Int.reduceToNat, reduceCtorEq, ↓reduceIte, f2, ib, hne, e47, Bool.not_false, decide_true, w1]
        refine ⟨m - 1, by omega, i + 1, by omega, ?_, rfl⟩
        rw [hr, List.take_add_one, hb]
        rfl
    · have f2 : ((i : Int) < (s.size : Int)) = False := eq_false (by omega)
      have hd : l.drop i = [] := List.drop_eq_nil_of_le (by omega)
      rw [hd, rPG] at hr
      simp only [go_sem, Nat.reduceAdd, Nat.reduceLT, Nat.reduceEqDiff, Nat.reduceBEq, Nat.reduceLeDiff, Nat.reduceSub, Int.reduceToNat, reduceCtorEq, ↓reduceIte, f2, decide_false, hr, avU, avPfx, c0]

theorem low8 (x : Nat) (hx : x < 4294967296) : bits .and .u32 (x : Int) 255 = ((x % 256 : Nat) : Int) := by
  have := u32_and_nat x 255 hx (by decide)
  rw [show ((255 : Nat) : Int) = 255 from rfl] at this
  rw [this, show (255 : Nat) = 2 ^ 8 - 1 from rfl, Nat.and_two_pow_sub_one_eq_mod]

theorem cat_text (b : Nat → Nat) : catB (catB (catB (catB (catB (catB (decB (b 0)) ⟨#[46]⟩) (decB (b 1))) ⟨#[46]⟩) (decB (b 2))) ⟨#[46]⟩) (decB (b 3)) = textB b := by
  rw [← toB_data (textB b), textB_data, ← toB_data (catB _ _)]
  congr 1
  simp [catB, decB, ByteArray.data_append]

theorem C_rText (a : Nat) (ha : a < 4294967296) : AC Tryd.prog f_rivuletref1_Text [avU a] (avStr (textB (bytN a))) := by
  refine ac_rivuletref1_Text ?_ (Nat.le_add_left 1 _)
  have hsh := fun v h0 h1 => avBin_shr 23 .u32 .u64 (a : Int) v h0 h1
  have s24 := hsh 24 (by decide) (by decide)
  have s16 := hsh 16 (by decide) (by decide)
  have s8 := hsh 8 (by decide) (by decide)
  have d0 : (a : Int) / 2 ^ 24 = ((bytN a 0 : Nat) : Int) := by simp only [bytN, Nat.sub_zero, Nat.reduceMul, Nat.reducePow, Int.reducePow]; omega
  have d1 : (a : Int) / 2 ^ 16 = ((a / 65536 : Nat) : Int) := by simp only [Int.reducePow]; omega
  have d2 : (a : Int) / 2 ^ 8 = ((a / 256 : Nat) : Int) := by simp only [Int.reducePow]; omega
  have l1 : bits .and .u32 ((a / 65536 : Nat) : Int) 255 = ((bytN a 1 : Nat) : Int) := by rw [low8 _ (by omega)]; rfl
  have l2 : bits .and .u32 ((a / 256 : Nat) : Int) 255 = ((bytN a 2 : Nat) : Int) := by rw [low8 _ (by omega)]; rfl
  have l3 : bits .and .u32 (a : Int) 255 = ((bytN a 3 : Nat) : Int) := by rw [low8 _ ha]; simp [bytN]
  have hb := fun i => bytN_lt a i
  have hw := fun i => u8_i64 (bytN a i) (hb i)
  have ds := fun i => dec_size (bytN a i) (hb i)
  have dz : (⟨#[46]⟩ : ByteArray).size = 1 := rfl
  have cs : ∀ p q : ByteArray, (catB p q).size = p.size + q.size := fun p q => by simp only [catB, ByteArray.size_append]
  have g0 := ds 0
  have g1 := ds 1
  have g2 := ds 2
  have g3 := ds 3
  have hI := fun i => C_Itoa (bytN a i) (by have := hb i; omega)
  have hT := cat_text (bytN a)
  generalize hx0 : decB (bytN a 0) = x0 at g0 hT
  generalize hx1 : decB (bytN a 1) = x1 at g1 hT
  generalize hx2 : decB (bytN a 2) = x2 at g2 hT
  generalize hx3 : decB (bytN a 3) = x3 at g3 hT
  have i0 := hI 0
  have i1 := hI 1
  have i2 := hI 2
  have i3 := hI 3
  rw [hx0] at i0
  rw [hx1] at i1
  rw [hx2] at i2
  rw [hx3] at i3
  have a1 := avBin_sadd 9 x0 ⟨#[46]⟩ (by omega)
  have a2 := avBin_sadd 9 (catB x0 ⟨#[46]⟩) x1 (by rw [cs]; omega)
  have a3 := avBin_sadd 9 (catB (catB x0 ⟨#[46]⟩) x1) ⟨#[46]⟩ (by rw [cs, cs]; omega)
  have a4 := avBin_sadd 9 (catB (catB (catB x0 ⟨#[46]⟩) x1) ⟨#[46]⟩) x2 (by rw [cs, cs, cs]; omega)
  have a5 := avBin_sadd 9 (catB (catB (catB (catB x0 ⟨#[46]⟩) x1) ⟨#[46]⟩) x2) ⟨#[46]⟩ (by rw [cs, cs, cs, cs]; omega)
  have a6 := avBin_sadd 9 (catB (catB (catB (catB (catB x0 ⟨#[46]⟩) x1) ⟨#[46]⟩) x2) ⟨#[46]⟩) x3 (by rw [cs, cs, cs, cs, cs]; omega)
  have w0 := hw 0
  have w1 := hw 1
  have w2 := hw 2
  have w3 := hw 3
  simp only [go_sem, Nat.reduceAdd, Nat.reduceLT, Nat.reduceEqDiff, Nat.reduceBEq, Nat.reduceLeDiff, Nat.reduceSub, Int.reduceToNat, reduceCtorEq, ↓reduceIte, c_rivuletref1_Text, avU, s24, d0, w0]
  refine callX_of i0 ?_
  simp only [go_sem, Nat.reduceAdd, Nat.reduceLT, Nat.reduceEqDiff, Nat.reduceBEq, Nat.reduceLeDiff, Nat.reduceSub, Int.reduceToNat, reduceCtorEq, ↓reduceIte, avStr, a1, s16, d1, l1, w1]
  refine callX_of i1 ?_
  simp only [go_sem, Nat.reduceAdd, Nat.reduceLT, Nat.reduceEqDiff, Nat.reduceBEq, Nat.reduceLeDiff, Nat.reduceSub, Int.reduceToNat, reduceCtorEq, ↓reduceIte, avStr, a2, a3, s8, d2, l2, w2]
  refine callX_of i2 ?_
  simp only [go_sem, Nat.reduceAdd, Nat.reduceLT, Nat.reduceEqDiff, Nat.reduceBEq, Nat.reduceLeDiff, Nat.reduceSub, Int.reduceToNat, reduceCtorEq, ↓reduceIte, avStr, a4, a5, l3, w3]
  refine callX_of i3 ?_
  simp only [go_sem, Nat.reduceAdd, Nat.reduceLT, Nat.reduceEqDiff, Nat.reduceBEq, Nat.reduceLeDiff, Nat.reduceSub, Int.reduceToNat, reduceCtorEq, ↓reduceIte, avStr, a6, hT]

end Go.Proofs.YtodnphnbnneegaaDoor.VL
