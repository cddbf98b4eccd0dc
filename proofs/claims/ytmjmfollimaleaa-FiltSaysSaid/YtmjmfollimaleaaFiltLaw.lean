/- filt: what rises, what filters let: plain laws. -/
import Derived.Test.YtmjmfollimaleaaFilt5
set_option linter.unusedVariables false
set_option linter.unusedSimpArgs false
set_option maxHeartbeats 4000000
namespace Go.Proofs.Ytmjmfollimaleaa.VL
open Go.RowKit Go.Proofs Go.Sort

theorem has_iff {l : List Int} {a : Int} : has l a = true ↔ a ∈ l := by
  rw [has, List.any_eq_true]
  constructor
  · rintro ⟨x, hx, h⟩
    have : a = x := by simpa using h
    rw [this]
    exact hx
  · exact fun h => ⟨a, h, by simp⟩
theorem has_eq {l l' : List Int} {a : Int} (h : a ∈ l ↔ a ∈ l') : has l a = has l' a := by
  cases h1 : has l a with
  | true => exact (has_iff.2 (h.1 (has_iff.1 h1))).symm
  | false =>
    cases h2 : has l' a with
    | true => rw [has_iff.2 (h.2 (has_iff.1 h2))] at h1; exact h1.symm
    | false => rfl

theorem mem_dd {a : Int} : ∀ {l : List Int}, a ∈ dd l ↔ a ∈ l
  | [] => Iff.rfl
  | [b] => Iff.rfl
  | b :: c :: t => by
    have ih : a ∈ dd (c :: t) ↔ a ∈ c :: t := mem_dd
    simp only [dd]
    by_cases h : b = c
    · rw [if_pos h, ih, h]
      simp
    · rw [if_neg h, List.mem_cons, ih, List.mem_cons (a := a) (b := b)]
theorem mem_rise {a : Int} {l : List Int} : a ∈ rise l ↔ a ∈ l := by
  rw [rise, mem_dd, List.mem_mergeSort]

/-- Ever greater. -/
abbrev Rising (l : List Int) : Prop := l.Pairwise (· < ·)
theorem dd_rising : ∀ {l : List Int}, l.Pairwise (· ≤ ·) → Rising (dd l)
  | [], _ => List.Pairwise.nil
  | [a], _ => by simp [dd, Rising]
  | a :: b :: t, h => by
    have h2 := List.pairwise_cons.1 h
    have ih := dd_rising h2.2
    simp only [dd]
    by_cases e : a = b
    · rw [if_pos e]; exact ih
    · rw [if_neg e]
      refine List.pairwise_cons.2 ⟨fun x hx => ?_, ih⟩
      rw [mem_dd] at hx
      have h3 := h2.1 b List.mem_cons_self
      rcases List.mem_cons.1 hx with rfl | hx
      · omega
      · have := (List.pairwise_cons.1 h2.2).1 x hx
        omega
theorem rise_rising (l : List Int) : Rising (rise l) := by
  refine dd_rising ?_
  have := List.pairwise_mergeSort (le := fun x y : Int => decide (x ≤ y)) (fun a b c h1 h2 => by simp at h1 h2 ⊢; omega) (fun a b => by simp; omega) l
  exact this.imp fun h => by simpa using h

/-- What rises is told by what is in it. -/
theorem rising_ext : ∀ {l l' : List Int}, Rising l → Rising l' → (∀ a, a ∈ l ↔ a ∈ l') → l = l'
  | [], [], _, _, _ => rfl
  | [], b :: t, _, _, h => absurd ((h b).2 List.mem_cons_self) (by simp)
  | a :: t, [], _, _, h => absurd ((h a).1 List.mem_cons_self) (by simp)
  | a :: t, b :: t', h1, h2, h => by
    obtain ⟨p1, q1⟩ := List.pairwise_cons.1 h1
    obtain ⟨p2, q2⟩ := List.pairwise_cons.1 h2
    have e : a = b := by
      rcases List.mem_cons.1 ((h a).1 List.mem_cons_self) with e | e
      · exact e
      · rcases List.mem_cons.1 ((h b).2 List.mem_cons_self) with e' | e'
        · exact e'.symm
        · have := p2 a e
          have := p1 b e'
          omega
    subst e
    congr 1
    refine rising_ext q1 q2 fun x => ⟨fun hx => ?_, fun hx => ?_⟩
    · rcases List.mem_cons.1 ((h x).1 (List.mem_cons_of_mem _ hx)) with e | e
      · have := p1 x hx; omega
      · exact e
    · rcases List.mem_cons.1 ((h x).2 (List.mem_cons_of_mem _ hx)) with e | e
      · have := p2 x hx; omega
      · exact e

theorem srcOf_rising (l : List Mem) : Rising (srcOf l) := (rise_rising _).sublist List.filter_sublist
theorem mem_src {l : List Mem} {a : Int} : a ∈ srcOf l ↔ a ∈ allOf l ∧ ((l.any fun m => admits m a) != anyOf l) = true := by
  rw [srcOf, List.mem_filter, mem_rise]
theorem mem_all {l : List Mem} {a : Int} : a ∈ allOf l ↔ ∃ m ∈ l, a ∈ m.s := List.mem_flatMap

/-- Who is not listed is let by those that are not Only. -/
theorem admits_out {m : Mem} {a : Int} (h : a ∉ m.s) : admits m a = !m.only := by
  have : has m.s a = false := by
    cases h1 : has m.s a with
    | true => exact absurd (has_iff.1 h1) h
    | false => rfl
  rw [admits, this]
  cases m.only <;> rfl
theorem any_out {l : List Mem} {a : Int} (h : a ∉ allOf l) : (l.any fun m => admits m a) = anyOf l := by
  rw [anyOf]
  apply Bool.eq_iff_iff.2
  simp only [List.any_eq_true]
  constructor <;> rintro ⟨m, hm, h1⟩ <;> refine ⟨m, hm, ?_⟩
  · rw [← admits_out (fun h2 => h (mem_all.2 ⟨m, hm, h2⟩))]; exact h1
  · rw [admits_out (fun h2 => h (mem_all.2 ⟨m, hm, h2⟩))]; exact h1
/-- A LINK LETS A SOURCE JUST IF ONE OF ITS MEMBERS ADMITS IT. -/
theorem lets_of (l : List Mem) (a : Int) : lets (anyOf l) (srcOf l) a = l.any fun m => admits m a := by
  rw [lets]
  cases h : has (srcOf l) a with
  | true =>
    have := (mem_src.1 (has_iff.1 h)).2
    revert this
    cases (l.any fun m => admits m a) <;> cases anyOf l <;> simp
  | false =>
    by_cases ha : a ∈ allOf l
    · have h2 : ¬ ((l.any fun m => admits m a) != anyOf l) = true := fun h3 => by
        rw [has_iff.2 (mem_src.2 ⟨ha, h3⟩)] at h
        cases h
      revert h2
      cases (l.any fun m => admits m a) <;> cases anyOf l <;> simp
    · rw [any_out ha]
      cases anyOf l <;> rfl
/-- Filters over the same members list the same. -/
theorem src_ext {l l' : List Mem} (h : ∀ m, m ∈ l ↔ m ∈ l') : anyOf l = anyOf l' ∧ srcOf l = srcOf l' := by
  have ha : ∀ p : Mem → Bool, l.any p = l'.any p := fun p => by
    apply Bool.eq_iff_iff.2
    simp only [List.any_eq_true]
    exact ⟨fun ⟨m, hm, h1⟩ => ⟨m, (h m).1 hm, h1⟩, fun ⟨m, hm, h1⟩ => ⟨m, (h m).2 hm, h1⟩⟩
  refine ⟨ha _, rising_ext (srcOf_rising _) (srcOf_rising _) fun a => ?_⟩
  rw [mem_src, mem_src, ha, show anyOf l = anyOf l' from ha _, mem_all, mem_all]
  have : (∃ m, m ∈ l ∧ a ∈ m.s) ↔ ∃ m, m ∈ l' ∧ a ∈ m.s := ⟨fun ⟨m, hm, h1⟩ => ⟨m, (h m).1 hm, h1⟩, fun ⟨m, hm, h1⟩ => ⟨m, (h m).2 hm, h1⟩⟩
  rw [this]

theorem src_len (l : List Mem) : (srcOf l).length ≤ (allOf l).length := Nat.le_trans (List.length_filter_le _ _) (rise_len _)
/-- What a link lets. -/
theorem C_LetsOf (l : List Mem) (a : Int) (h : (allOf l).length ≤ 255) : AC Try.prog f_filt_Lets [.agg [.lit (.bool (anyOf l)), .sl .none 1 ((srcOf l).map aI)], aI a] (.lit (.bool (l.any fun m => admits m a))) := by
  have c := C_Lets (anyOf l) (some (srcOf l)) a (by have := src_len l; show (srcOf l).length < _; omega)
  rw [show asL (some (srcOf l)) = srcOf l from rfl, lets_of] at c
  exact c

/-- Members that list few. -/
abbrev Few (l : List Mem) : Prop := ∀ m ∈ l, m.s.length ≤ 10
theorem few_of {l : List Mem} (h : lightB l = true) : Few l := by
  simp only [lightB, Bool.and_eq_true, List.all_eq_true, decide_eq_true_eq] at h
  exact h.1
theorem few_all : ∀ {l : List Mem}, Few l → (allOf l).length ≤ 10 * l.length
  | [], _ => by simp [allOf]
  | m :: l, h => by
    have h1 := few_all (l := l) fun x hx => h x (List.mem_cons_of_mem _ hx)
    have h2 := h m List.mem_cons_self
    simp only [allOf, List.flatMap_cons, List.length_append, List.length_cons] at h1 ⊢
    omega

end Go.Proofs.Ytmjmfollimaleaa.VL
