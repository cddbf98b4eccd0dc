/- Texts: parts, cuts, bytes: contracts out of the library's own, and plain laws. -/
import Derived.Test.YtodnphnbnneegaaDoorBits
import Derived.Test.YtodnphnbnneegaaDoorCode
import Derived.Test.YtodnphnbnneegaaDoorShelf
import Derived.Lib.SplitLaws
set_option linter.unusedVariables false
set_option linter.unusedSimpArgs false
set_option maxHeartbeats 4000000
namespace Go.Proofs.YtodnphnbnneegaaDoor.VL
open Go.RowKit Go.Proofs

def avU (a : Nat) : AV := .lit (.int .u32 (a : Nat))
def avB (b : Nat) : AV := .lit (.int .u8 (b : Nat))
def avPfx (a : Nat) (b : Int) : AV := .agg [avU a, .lit (.int .i64 b)]

theorem nat_beq0 (n : Nat) : ((n : Int) == 0) = decide (n = 0) := by
  rw [Bool.eq_iff_iff]
  simp only [beq_iff_eq, decide_eq_true_eq]
  omega
theorem nat_beq (n m : Nat) : ((n : Int) == (m : Int)) = decide (n = m) := by
  rw [Bool.eq_iff_iff]
  simp only [beq_iff_eq, decide_eq_true_eq]
  omega


theorem c0 : ((0 : Nat) : Int) = 0 := rfl
theorem c1 : ((1 : Nat) : Int) = 1 := rfl
theorem c2 : ((2 : Nat) : Int) = 2 := rfl
theorem c3 : ((3 : Nat) : Int) = 3 := rfl
theorem c4 : ((4 : Nat) : Int) = 4 := rfl
theorem v0 : IntKind.i64.wrap 0 = 0 := by decide
theorem v1 : IntKind.i64.wrap 1 = 1 := by decide
theorem v2 : IntKind.i64.wrap 2 = 2 := by decide
theorem v3 : IntKind.i64.wrap 3 = 3 := by decide
theorem v4 : IntKind.i64.wrap 4 = 4 := by decide
theorem v8 : IntKind.i64.wrap 8 = 8 := by decide
theorem v16 : IntKind.i64.wrap 16 = 16 := by decide
theorem v24 : IntKind.i64.wrap 24 = 24 := by decide

def avStr (s : ByteArray) : AV := .lit (.string s)


theorem rows_str {E : RE} : ∀ {xs : List ByteArray} {vs : List Value}, RepL E (xs.map avStr) vs → vs = xs.map Value.string
  | [], vs, h => by simpa [RepL] using h
  | x :: xs, vs, h => by
    simp only [List.map_cons, RepL, avStr, Rep] at h
    obtain ⟨v, ws, rfl, rfl, h⟩ := h
    rw [rows_str h]
    rfl

theorem flat_str (xs : List ByteArray) : flat (xs.map Value.string) = xs.map Value.string := by
  induction xs with
  | nil => rfl
  | cons x xs ih =>
    simp [flat, Value.cells] at ih ⊢
    exact ih


abbrev f_strings_Split : FuncId := 46
abbrev f_strings_Cut : FuncId := 47


theorem maxLen_is {R : RE} (hR : R.Start) : ∃ m, R.w.cell? ⟨5, 0, none⟩ = some (.int .i64 m) := by
  obtain ⟨cs, ty, fr, m, h, h2⟩ := hR.globD.ints 5 (by simp [GI])
  exact ⟨m, by simp [World.cell?, h, h2]⟩


theorem C_Cut (s sep : ByteArray) (hs : s.size < 4294967281) : AC Tryd.prog f_strings_Cut [avStr s, avStr sep]
    (.tup [avStr ⟨(Lib.cut s.data.toList sep.data.toList).1.toArray⟩, avStr ⟨(Lib.cut s.data.toList sep.data.toList).2.1.toArray⟩, .lit (.bool (Lib.cut s.data.toList sep.data.toList).2.2)]) := by
  refine AC_lib (v := .tuple #[.string ⟨(Lib.cut s.data.toList sep.data.toList).1.toArray⟩, .string ⟨(Lib.cut s.data.toList sep.data.toList).2.1.toArray⟩, .bool (Lib.cut s.data.toList sep.data.toList).2.2]) (enters_of Tryd.func47 (by kernel_rfl) (by kernel_rfl)) rfl (fun E => ?_) fun R cargs hR hrep => ?_
  · simp only [avStr, Rep]
    exact ⟨[_, _, _], rfl, by simp only [RepL, Rep]; exact ⟨_, _, rfl, rfl, _, _, rfl, rfl, _, _, rfl, rfl, rfl⟩⟩
  · simp only [RepL, Rep, avStr] at hrep
    obtain ⟨_, _, rfl, rfl, _, _, rfl, rfl, rfl⟩ := hrep
    obtain ⟨m, hm⟩ := maxLen_is hR
    refine (Tryd.strings_Cut s sep m R.w hs hm).mono ?_
    rintro e w' ⟨rfl, n, rfl⟩
    exact ⟨rfl, below_drewN _ _⟩

theorem repL_str (E : RE) : ∀ xs : List ByteArray, RepL E (xs.map avStr) (xs.map Value.string)
  | [] => by simp [RepL]
  | x :: xs => by simp only [List.map_cons, RepL, avStr, Rep]; exact ⟨_, _, rfl, rfl, repL_str E xs⟩

theorem C_Split (s sep : ByteArray) (hs : s.size < 4294967281) (h1 : 1 ≤ sep.size) : AC Tryd.prog f_strings_Split [avStr s, avStr sep] (.sl .none 1 ((Lib.splitB sep 0 (Lib.countB s sep) s).map avStr)) := by
  refine ⟨rfl, enters_of Tryd.func46 (by kernel_rfl) (by kernel_rfl), fun R cargs hR hh _ hrep => ?_⟩
  simp only [RepL, Rep, avStr] at hrep
  obtain ⟨_, _, rfl, rfl, _, _, rfl, rfl, rfl⟩ := hrep
  obtain ⟨m, hm⟩ := maxLen_is hR
  have hlen := Lib.splitB_all sep h1 0 (Lib.countB s sep) s rfl
  generalize hl : Lib.splitB sep 0 (Lib.countB s sep) s = l at hlen ⊢
  refine (Tryd.strings_Split s sep m R.w hs hm h1).mono ?_
  rintro e w' ⟨rfl, rfl⟩
  rw [hl]
  let E' : RE := { R with w := R.w.alloc (.cells (l.map Value.string).toArray 9), S := fun b o => R.S b o ∨ b = R.w.heap.size }
  have hb : Below R.w.heap.size R.w E'.w := (Below.refl _ _).alloc (Nat.le_refl _) _
  have hnew : E'.w.heap[R.w.heap.size]? = some (.cells (l.map Value.string).toArray 9 (0, 0)) := by
    show (R.w.heap.push _)[R.w.heap.size]? = _
    simp
  refine ⟨_, E', rfl, rfl, ?_, ⟨⟨hb.os, hb.tape, hb.output, hb.size, fun k hk _ => hb.block k hk⟩, fun k hk o hs => ?_, fun b o hlt => ?_, fun b o hs => ?_, rfl, fun g τ ho => (hR.own g τ ho).elim, fun g τ τ' ho => (hR.own g τ ho).elim⟩, fun c b hc => ?_⟩
  · simp only [Rep]
    refine ⟨some ⟨R.w.heap.size, 0, none⟩, Lib.countB s sep + 1, l.map Value.string, by simp [hlen], by simp [hlen], repL_str _ _, ?_, ?_, fun _ => ⟨_, _, rfl, ?_⟩⟩
    · intro u hu
      obtain ⟨x, _, rfl⟩ := List.mem_map.1 hu
      rfl
    · rw [flat_str]
      intro u hu
      obtain ⟨x, _, rfl⟩ := List.mem_map.1 hu
      rfl
    · rw [flat_str]
      intro j u hj
      refine ⟨.inr rfl, ?_⟩
      simp only [World.cell?, hnew, Nat.zero_add]
      simpa using hj
  · rcases hs with hs | rfl
    · exact hR.MS k hk o hs
    · exact Nat.lt_irrefl _ (hR.Mlt _ hk)
  · constructor
    · rintro (hs | rfl)
      · exact hs
      · exact (Nat.lt_irrefl _ hlt).elim
    · exact .inl
  · rcases hs with hs | rfl
    · exact Nat.lt_of_lt_of_le (hR.S b o hs) hb.size
    · show _ < (R.w.heap.push _).size
      simp
  · obtain ⟨cs, _, _, e, _⟩ := hh c b hc
    cases e

def parts (s : ByteArray) (c : UInt8) : List ByteArray := Lib.splitB ⟨#[c]⟩ 0 (Lib.countB s ⟨#[c]⟩) s

/-- A text's parts between a byte. -/
def spl (c : UInt8) : List UInt8 → List (List UInt8)
  | [] => [[]]
  | b :: l => if b = c then [] :: spl c l else match spl c l with
    | h :: t => (b :: h) :: t
    | [] => [[b]]

theorem spl_ne (c : UInt8) (l : List UInt8) : spl c l ≠ [] := by
  cases l with
  | nil => simp [spl]
  | cons b l =>
    simp only [spl]
    split
    · simp
    · split <;> simp

theorem index_eq (c : UInt8) (l : List UInt8) : Lib.index (c :: l) [c] = 0 := by rw [Lib.index]; simp [List.isPrefixOf]
theorem index_ne (b c : UInt8) (l : List UInt8) (h : b ≠ c) : Lib.index (b :: l) [c] = if Lib.index l [c] = -1 then -1 else Lib.index l [c] + 1 := by
  have hp : ([c] : List UInt8).isPrefixOf (b :: l) = false := by simp [List.isPrefixOf, Ne.symm h]
  rw [Lib.index, hp]
  simp

theorem splitK_spl (c : UInt8) : ∀ l : List UInt8, Lib.splitK [c] 0 (Lib.count l [c]) l = spl c l
  | [] => by
    rw [Lib.count_miss (by simp [Lib.index])]
    rfl
  | b :: l => by
    have ih := splitK_spl c l
    by_cases h : b = c
    · subst h
      rw [Lib.count_cons_eq, Nat.add_comm, Lib.splitK, index_eq]
      simp [spl, ih]
    · rw [Lib.count_cons_ne b c l h]
      simp only [spl, if_neg h, ← ih]
      by_cases hm : Lib.index l [c] = -1
      · rw [Lib.count_miss hm]
        rfl
      · have hge := Lib.index_ge l [c]
        obtain ⟨j, hj⟩ : ∃ j : Nat, Lib.index l [c] = j := ⟨(Lib.index l [c]).toNat, by omega⟩
        have hc := Lib.count_hit (s := l) (sub := [c]) (by simp) hj
        rw [hc, Nat.add_comm, Lib.splitK, Lib.splitK, index_ne b c l h, hj]
        have e1 : ¬ (j : Int) = -1 := by omega
        have e2 : ((j : Int) == -1) = false := by simp [e1]
        have e3 : (((j : Int) + 1) == -1) = false := by simp; omega
        have e4 : ((j : Int) + 1).toNat = j + 1 := by omega
        simp [e1, e2, e3, e4]

def toB (l : List UInt8) : ByteArray := ⟨l.toArray⟩
theorem toB_data (s : ByteArray) : toB s.data.toList = s := by simp [toB]
theorem data_toB (l : List UInt8) : (toB l).data.toList = l := by simp [toB]
theorem map_toB (l : List ByteArray) : (l.map (·.data.toList)).map toB = l := by
  rw [List.map_map]
  conv => rhs; rw [← List.map_id l]
  exact List.map_congr_left fun x _ => toB_data x

theorem parts_spl (s : ByteArray) (c : UInt8) : parts s c = (spl c s.data.toList).map toB := by
  have h := Lib.splitB_data ⟨#[c]⟩ 0 (Lib.countB s ⟨#[c]⟩) s
  rw [show (⟨#[c]⟩ : ByteArray).data.toList = [c] from rfl, show Lib.countB s ⟨#[c]⟩ = Lib.count s.data.toList [c] from rfl, splitK_spl] at h
  rw [← h, map_toB]
  rfl

theorem spl_app (c : UInt8) (r : List UInt8) : ∀ d : List UInt8, (∀ x ∈ d, x ≠ c) → spl c (d ++ c :: r) = d :: spl c r
  | [], _ => by simp [spl]
  | b :: d, h => by
    rw [List.cons_append, spl, if_neg (h b List.mem_cons_self), spl_app c r d fun x hx => h x (List.mem_cons_of_mem _ hx)]
theorem spl_one (c : UInt8) : ∀ d : List UInt8, (∀ x ∈ d, x ≠ c) → spl c d = [d]
  | [], _ => rfl
  | b :: d, h => by rw [spl, if_neg (h b List.mem_cons_self), spl_one c d fun x hx => h x (List.mem_cons_of_mem _ hx)]

theorem index_app (c : UInt8) (r : List UInt8) : ∀ d : List UInt8, (∀ x ∈ d, x ≠ c) → Lib.index (d ++ c :: r) [c] = d.length
  | [], _ => by rw [List.nil_append, index_eq]; rfl
  | b :: d, h => by
    rw [List.cons_append, index_ne b c _ (h b List.mem_cons_self), index_app c r d fun x hx => h x (List.mem_cons_of_mem _ hx)]
    rw [if_neg (by omega)]
    simp
theorem index_no (c : UInt8) : ∀ d : List UInt8, (∀ x ∈ d, x ≠ c) → Lib.index d [c] = -1
  | [], _ => by simp [Lib.index]
  | b :: d, h => by
    rw [index_ne b c _ (h b List.mem_cons_self), index_no c d fun x hx => h x (List.mem_cons_of_mem _ hx)]
    rfl
theorem cut_app (c : UInt8) (d r : List UInt8) (h : ∀ x ∈ d, x ≠ c) : Lib.cut (d ++ c :: r) [c] = (d, r, true) := by
  unfold Lib.cut
  rw [index_app c r d h, if_pos (by omega)]
  simp
theorem cut_no (c : UInt8) (d : List UInt8) (h : ∀ x ∈ d, x ≠ c) : Lib.cut d [c] = (d, [], false) := by
  unfold Lib.cut
  rw [index_no c d h, if_neg (by omega)]


theorem avIxs_l (s : ByteArray) (q : IntKind) (k : Nat) (b : UInt8) (h : s.data.toList[k]? = some b) : avIxs (.lit (.string s)) (.lit (.int q (k : Nat))) = some (.lit (.int .u8 ((b.toNat : Nat) : Int))) := by
  have hk : k < s.data.toList.length := (List.getElem?_eq_some_iff.1 h).1
  have hk' : k < s.size := by rw [Lib.size_eq]; exact hk
  rw [avIxs_at s q k hk']
  have e : s[k] = b := by
    have h2 := (List.getElem?_eq_some_iff.1 h).2
    rw [← h2]
    simp [ByteArray.getElem_eq_getElem_data]
  rw [e]


end Go.Proofs.YtodnphnbnneegaaDoor.VL
