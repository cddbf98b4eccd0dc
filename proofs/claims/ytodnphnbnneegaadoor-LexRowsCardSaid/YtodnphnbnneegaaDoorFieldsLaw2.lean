/- Fields, byte by byte; a text's lines by a scanner: plain laws. -/
import Derived.Test.YtodnphnbnneegaaDoorFieldsLaw
set_option linter.unusedVariables false
set_option linter.unusedSimpArgs false
namespace Go.Proofs.YtodnphnbnneegaaDoor.VL
open Go.RowKit Go.Proofs

def curOf (l : List UInt8) (pos : Nat) : Option Nat → List UInt8
  | none => []
  | some a => (l.drop a).take (pos - a)
def cutP (s : ByteArray) (l : List (Nat × Nat)) : List (List UInt8) := l.map fun x => (s.extract x.1 x.2).data.toList

theorem fB_end (cur : List UInt8) (h : cur ≠ []) : fB [] cur = [cur] := by rw [fB, if_neg h]
theorem fB_spc (b : UInt8) (r cur : List UInt8) (hs : spB b = true) (h : cur ≠ []) : fB (b :: r) cur = cur :: fB r [] := by rw [fB, if_pos hs, if_neg h]
theorem cur_ne (l : List UInt8) (pos a : Nat) (ha : a < pos) (hp : pos ≤ l.length) : curOf l pos (some a) ≠ [] := by
  intro e
  have := congrArg List.length e
  simp [curOf] at this
  omega
theorem ext_drop (s : ByteArray) (i j : Nat) : (s.extract i j).data.toList = (s.data.toList.drop i).take (j - i) := by
  rw [Lib.extract_data]

theorem spans_fB (s : ByteArray) : ∀ (f pos : Nat) (st : Option Nat) (acc : List (Nat × Nat)), s.data.toList.length ≤ pos + f → pos ≤ s.data.toList.length → (∀ a, st = some a → a < pos) →
    cutP s (Lib.closeSpans s (Lib.spansFromP spaceP s f pos st acc)) = cutP s acc ++ fB (s.data.toList.drop pos) (curOf s.data.toList pos st)
  | 0, pos, st, acc, hf, hp, hst => by
    have hsz : s.size = s.data.toList.length := Lib.size_eq s
    have hpe : pos = s.data.toList.length := by omega
    rw [hpe, List.drop_length, Lib.spansFromP]
    cases st with
    | none => simp [Lib.closeSpans, curOf, fB]
    | some a =>
      have ha := hst a rfl
      rw [fB_end _ (cur_ne _ _ a (by omega) (Nat.le_refl _))]
      simp only [Lib.closeSpans, curOf, cutP, List.map_append, List.map_cons, List.map_nil, ext_drop, hsz]
  | f + 1, pos, st, acc, hf, hp, hst => by
    have hsz : s.size = s.data.toList.length := Lib.size_eq s
    by_cases hlt : pos < s.data.toList.length
    · obtain ⟨b, hb⟩ : ∃ b, s.data.toList[pos]? = some b := ⟨s.data.toList[pos], List.getElem?_eq_getElem hlt⟩
      have hdrop : s.data.toList.drop pos = b :: s.data.toList.drop (pos + 1) := by
        rw [List.drop_eq_getElem_cons hlt]
        congr 1
        exact (List.getElem?_eq_some_iff.1 hb).2
      obtain ⟨d1, d2⟩ := decode_byte s pos b hb
      unfold Lib.spansFromP
      rw [if_pos (by omega)]
      cases hs : spB b with
      | true =>
        obtain ⟨e1, e2⟩ := d1 hs
        rw [e1]
        simp only [e2, if_true]
        cases st with
        | none =>
          rw [hdrop]
          simp only [curOf]
          rw [fB, if_pos hs, if_pos rfl]
          exact spans_fB s f (pos + 1) none acc (by omega) (by omega) (fun a ha => by cases ha)
        | some a =>
          have ha := hst a rfl
          rw [hdrop, fB_spc b _ _ hs (cur_ne _ _ a ha hp)]
          simp only
          rw [spans_fB s f (pos + 1) none (acc ++ [(a, pos)]) (by omega) (by omega) (fun a ha => by cases ha)]
          simp only [cutP, List.map_append, List.map_cons, List.map_nil, ext_drop, curOf, List.append_assoc, List.singleton_append]
      | false =>
        obtain ⟨e1, e2, e3, e4⟩ := d2 hs
        generalize Utf8.decode s pos = dw at e1 e2 e3 e4
        obtain ⟨r, w⟩ := dw
        simp only [e1, Bool.false_eq_true, if_false]
        simp only at e2 e3 e4
        have hsplit : s.data.toList.drop pos = (s.data.toList.drop pos).take w ++ s.data.toList.drop (pos + w) := by
          conv => lhs; rw [← List.take_append_drop w (s.data.toList.drop pos)]
          rw [List.drop_drop]
        cases st with
        | none =>
          simp only [curOf]
          rw [spans_fB s f (pos + w) (some pos) acc (by omega) (by omega) (fun a ha => by injection ha with ha; omega), hsplit, fB_run _ _ _ e4]
          simp only [curOf, List.nil_append, Nat.add_sub_cancel_left]
        | some a =>
          have ha := hst a rfl
          simp only [curOf]
          rw [spans_fB s f (pos + w) (some a) acc (by omega) (by omega) (fun a' ha' => by injection ha' with ha'; omega), hsplit, fB_run _ _ _ e4]
          congr 2
          simp only [curOf]
          rw [show pos + w - a = (pos - a) + w by omega, List.take_add]
          congr 1
          rw [List.drop_drop, show a + (pos - a) = pos by omega]
    · have hpe : pos = s.data.toList.length := by omega
      unfold Lib.spansFromP
      rw [if_neg (by omega), hpe, List.drop_length]
      cases st with
      | none => simp [Lib.closeSpans, curOf, fB]
      | some a =>
        have ha := hst a rfl
        rw [fB_end _ (cur_ne _ _ a (by omega) (Nat.le_refl _))]
        simp only [Lib.closeSpans, curOf, cutP, List.map_append, List.map_cons, List.map_nil, ext_drop, hsz]

theorem fields_fB (s : ByteArray) : fieldsB s = (fB s.data.toList []).map toB := by
  have hsz : s.size = s.data.toList.length := Lib.size_eq s
  have h := spans_fB s s.size 0 none [] (by omega) (by omega) (fun a ha => by cases ha)
  simp only [List.drop_zero, curOf] at h
  have h2 : (fieldsB s).map (·.data.toList) = cutP s (Lib.closeSpans s (Lib.spansFromP spaceP s s.size 0 none [])) := by
    unfold fieldsB Lib.goFieldsP Lib.spansOfP cutP
    rw [List.map_map]
    rfl
  rw [h] at h2
  have h3 : (fieldsB s).map (·.data.toList) = fB s.data.toList [] := by rw [h2]; simp [cutP]
  rw [← h3, map_toB]

/-! ### The scanner -/
/-- What stands ahead of a line's note. -/
def b35 : List UInt8 → List UInt8
  | [] => []
  | b :: r => if b = 35 then [] else b :: b35 r
theorem cut_b35 : ∀ l : List UInt8, (Lib.cut l [35]).1 = b35 l := by
  intro l
  by_cases h : (35 : UInt8) ∈ l
  · have key : ∀ l : List UInt8, (35 : UInt8) ∈ l → ∃ r, l = b35 l ++ 35 :: r ∧ ∀ x ∈ b35 l, x ≠ 35 := by
      intro l
      induction l with
      | nil => intro h; cases h
      | cons b l ih =>
        intro h
        by_cases hb : b = 35
        · subst hb
          exact ⟨l, by simp [b35], by simp [b35]⟩
        · rcases List.mem_cons.1 h with h | h
          · exact absurd h.symm hb
          · obtain ⟨r, h1, h2⟩ := ih h
            refine ⟨r, ?_, ?_⟩
            · rw [b35, if_neg hb, List.cons_append, ← h1]
            · rw [b35, if_neg hb]
              intro x hx
              exact (List.mem_cons.1 hx).elim (fun e => e ▸ hb) (h2 x)
    obtain ⟨r, h1, h2⟩ := key l h
    conv => lhs; rw [h1]
    rw [cut_app 35 _ r h2]
  · have hno : ∀ x ∈ l, x ≠ 35 := fun x hx e => h (e ▸ hx)
    rw [cut_no 35 l hno]
    have : ∀ l : List UInt8, (∀ x ∈ l, x ≠ 35) → b35 l = l := by
      intro l
      induction l with
      | nil => intro _; rfl
      | cons b l ih =>
        intro h
        rw [b35, if_neg (h b List.mem_cons_self), ih fun x hx => h x (List.mem_cons_of_mem _ hx)]
    exact (this l hno).symm

abbrev WL := List (Nat × List (List UInt8))
def outL (no : Nat) (ws : List (List UInt8)) : WL := if ws = [] then [] else [(no, ws)]
def pushW (ws : List (List UInt8)) (w : List UInt8) : List (List UInt8) := if w = [] then ws else ws ++ [w]
/-- rivuletref5.Lines: its loop. -/
def rL : List UInt8 → Nat → List (List UInt8) → List UInt8 → Bool → WL
  | [], no, ws, w, _ => outL no (pushW ws w)
  | c :: r, no, ws, w, note =>
    if (c ≠ 10 ∧ spB c = false) ∧ (note = false ∧ c ≠ 35) then rL r no ws (w ++ [c]) false
    else if c = 10 then outL no (pushW ws w) ++ rL r (no + 1) [] [] false
    else rL r no (pushW ws w) [] (note || c == 35)
def lnsL : Nat → List (List UInt8) → WL
  | _, [] => []
  | no, x :: r => outL no (fB (b35 x) []) ++ lnsL (no + 1) r
def tailW (h w : List UInt8) (note : Bool) : List (List UInt8) := if note = true then [] else fB (b35 h) w

theorem rL_parts : ∀ (l : List UInt8) (no : Nat) (ws : List (List UInt8)) (w : List UInt8) (note : Bool), (note = true → w = []) →
    ∃ h t, spl 10 l = h :: t ∧ rL l no ws w note = outL no (ws ++ tailW h w note) ++ lnsL (no + 1) t
  | [], no, ws, w, note, hn => by
    refine ⟨[], [], rfl, ?_⟩
    simp only [rL, lnsL, List.append_nil, tailW, b35, fB, pushW]
    cases note
    · simp only [Bool.false_eq_true, if_false]
      by_cases hw : w = []
      · simp [hw]
      · simp [hw]
    · simp [hn rfl]
  | c :: r, no, ws, w, note, hn => by
    by_cases h10 : c = 10
    · subst h10
      obtain ⟨h, t, e1, e2⟩ := rL_parts r (no + 1) [] [] false (fun e => by cases e)
      refine ⟨[], h :: t, by rw [spl, if_pos rfl, e1], ?_⟩
      rw [rL, if_neg (by simp), if_pos rfl, e2]
      simp only [lnsL, List.nil_append, tailW, Bool.false_eq_true, if_false, b35, fB, pushW]
      congr 2
      cases note
      · simp only [Bool.false_eq_true, if_false]
        by_cases hw : w = []
        · simp [hw]
        · simp [hw]
      · simp [hn rfl]
    · have hspl : ∀ h t, spl 10 r = h :: t → spl 10 (c :: r) = (c :: h) :: t := fun h t e => by rw [spl, if_neg h10, e]
      by_cases hc : (c ≠ 10 ∧ spB c = false) ∧ (note = false ∧ c ≠ 35)
      · obtain ⟨⟨_, hs⟩, hnote, h35⟩ := hc
        subst hnote
        obtain ⟨h, t, e1, e2⟩ := rL_parts r no ws (w ++ [c]) false (fun e => by cases e)
        refine ⟨c :: h, t, hspl h t e1, ?_⟩
        rw [rL, if_pos ⟨⟨h10, hs⟩, rfl, h35⟩, e2]
        simp only [tailW, Bool.false_eq_true, if_false, b35, if_neg h35, fB, hs]
      · by_cases h35 : c = 35
        · subst h35
          obtain ⟨h, t, e1, e2⟩ := rL_parts r no (pushW ws w) [] true (fun _ => rfl)
          refine ⟨35 :: h, t, hspl h t e1, ?_⟩
          rw [rL, if_neg hc, if_neg h10, show (note || (35 : UInt8) == 35) = true by simp, e2]
          simp only [tailW, if_true, List.append_nil, b35, fB, pushW]
          cases note
          · simp only [Bool.false_eq_true, if_false]
            by_cases hw : w = []
            · simp [hw]
            · simp [hw]
          · simp [hn rfl]
        · cases note with
          | true =>
            have hw := hn rfl
            subst hw
            obtain ⟨h, t, e1, e2⟩ := rL_parts r no ws [] true (fun _ => rfl)
            refine ⟨c :: h, t, hspl h t e1, ?_⟩
            rw [rL, if_neg hc, if_neg h10, show (true || c == 35) = true by simp, show pushW ws [] = ws by simp [pushW], e2]
            simp only [tailW, if_true]
          | false =>
            have hs : spB c = true := by
              cases h : spB c with
              | true => rfl
              | false => exact absurd ⟨⟨h10, h⟩, rfl, h35⟩ hc
            obtain ⟨h, t, e1, e2⟩ := rL_parts r no (pushW ws w) [] false (fun e => by cases e)
            refine ⟨c :: h, t, hspl h t e1, ?_⟩
            have h35b : (c == 35) = false := by simpa using h35
            rw [rL, if_neg hc, if_neg h10, h35b, Bool.false_or, e2]
            simp only [tailW, Bool.false_eq_true, if_false, b35, if_neg h35, fB, hs, if_true, pushW]
            by_cases hw : w = []
            · simp [hw]
            · simp [hw]

theorem rL_lines (s : ByteArray) : (rL s.data.toList 1 [] [] false).map (fun q => (q.1, q.2.map toB)) = linesV s := by
  obtain ⟨h, t, e1, e2⟩ := rL_parts s.data.toList 1 [] [] false (fun e => by cases e)
  rw [e2]
  unfold linesV
  rw [parts_spl, e1]
  have key : ∀ (ps : List (List UInt8)) (i : Nat), (lnsL (i + 1) ps).map (fun q => (q.1, q.2.map toB)) = linesGo i (ps.map toB) := by
    intro ps
    induction ps with
    | nil => intro i; rfl
    | cons x ps ih =>
      intro i
      simp only [lnsL, List.map_append, List.map_cons, linesGo, ih (i + 1)]
      congr 1
      have hw : wordsOf (toB x) = (fB (b35 x) []).map toB := by
        unfold wordsOf
        rw [fields_fB, data_toB, cut_b35]
      unfold outL lineOf
      rw [hw]
      by_cases hf : fB (b35 x) [] = []
      · simp [hf]
      · simp [hf]
  have h2 := key (h :: t) 0
  simp only [lnsL, tailW, Bool.false_eq_true, if_false, List.nil_append] at h2 ⊢
  exact h2

end Go.Proofs.YtodnphnbnneegaaDoor.VL
