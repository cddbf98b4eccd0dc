/- The value logic, part 22: a law's arguments opened; a contract closed into what the row asks. -/
import Derived.Test.YtmjmfollimaleaaVLV
import Derived.ProofKit
set_option linter.unusedVariables false
set_option linter.unusedSimpArgs false
namespace Go.Proofs.Ytmjmfollimaleaa.VL
open Go.RowKit Go.ChangeShapes

/-- The reading in which a law's arguments are read. -/
def gOf (W : World) (g : Nat) : TypeId × Addr := match W.cell? ⟨g, 0, none⟩ with
  | some (.iface t (.pointer (some a))) => (t, a)
  | _ => (0, default)
def R0 (W : World) : RE := ⟨W, fun b _ => b < W.heap.size, fun b => b < W.heap.size, fun _ => none, fun _ _ => False, gOf W, fun _ => none⟩

/-- The errors that are read stand where they should, each at a place of its own. -/
structure SentAt (W : World) : Prop where
  cell : ∀ g ∈ GS, ∃ a cs ty, W.cell? ⟨g, 0, none⟩ = some (.iface GT (.pointer (some a))) ∧ W.heap[a.block]? = some (.cells cs ty (0, 0))
  dist : ∀ g ∈ GS, ∀ k ∈ GS, ∀ a t u, W.cell? ⟨g, 0, none⟩ = some (.iface t (.pointer (some a))) → W.cell? ⟨k, 0, none⟩ = some (.iface u (.pointer (some a))) → g = k
theorem SentAt.none {W : World} (h : GS = []) : SentAt W := ⟨fun g hg => by (rw [h] at hg; cases hg), fun g hg => by (rw [h] at hg; cases hg)⟩

theorem R0_start (W : World) (hg : SentAt W) (hd : GOK fun g => W.heap[g]?) : (R0 W).Start :=
  ⟨fun _ _ h => h, fun _ _ h => h, fun _ h => ⟨h, fun ⟨c, hc⟩ => (nomatch hc)⟩, fun _ ⟨c, hc⟩ => (nomatch hc), fun _ ⟨c, hc⟩ => (nomatch hc), fun _ _ _ h => (nomatch h), fun _ _ h => (nomatch h), fun _ => rfl, fun g h => by
    obtain ⟨a, _, _, e, _⟩ := hg.cell g h
    show W.cell? ⟨g, 0, none⟩ = _
    simp only [R0, gOf, e], fun _ _ ⟨c, hc⟩ => (nomatch hc), hd, fun _ _ ⟨c, hc⟩ => (nomatch hc), fun g h => by
    obtain ⟨a, cs, ty, e, e2⟩ := hg.cell g h
    have h1 : (R0 W).G g = (GT, a) := by simp only [R0, gOf, e]
    rw [h1]
    exact ⟨rfl, ⟨cs, ty, e2⟩, fun ⟨c, hc⟩ => (nomatch hc)⟩, fun g h k h2 e => by
    obtain ⟨a, _, _, e1, _⟩ := hg.cell g h
    obtain ⟨b, _, _, e2, _⟩ := hg.cell k h2
    have h3 : (R0 W).G g = (GT, a) := by simp only [R0, gOf, e1]
    have h4 : (R0 W).G k = (GT, b) := by simp only [R0, gOf, e2]
    rw [h3, h4] at e
    subst e
    exact hg.dist g h k h2 _ _ _ e1 e2⟩

theorem R0_ext (W : World) : Ext (R0 W).closed (R0 W) :=
  ⟨fun _ _ h => h, fun _ h => h.elim, fun _ _ _ _ h => h, fun _ _ _ _ h => h, fun c b h => by simp [RE.closed] at h, fun g τ h => (h : False).elim, rfl, fun c b h => by simp [RE.closed] at h⟩

/-- What a cell of an argument holds. -/
inductive SC where
  | int (k : IntKind)
  | bool
  | str
  | sl (agg : Bool) (row : List SC)

def fieldTys (f : TypeId → Option (List SC)) (P : Program) : List Field → Nat → Option (List SC)
  | [], _ => some []
  | fd :: fs, off => match f fd.type, fieldTys f P fs (off + P.cellsOf fd.type) with
    | some l, some r => if fd.offset = off ∧ l.length = P.cellsOf fd.type then some (l ++ r) else none
    | _, _ => none

def cellTys (P : Program) : Nat → TypeId → Option (List SC)
  | 0, _ => none
  | n + 1, t => match P.underlying t with
    | some .bool => some [.bool]
    | some (.int k) => some [.int k]
    | some .string => some [.str]
    | some (.slice e) => match cellTys P n e, isAggB P e with
      | some row, some b => if row.length = P.cellsOf e ∧ 0 < row.length ∧ (b = true ∨ row.length = 1) then some [.sl b row] else none
      | _, _ => none
    | some (.struct fs) => match fieldTys (cellTys P n) P fs.toList 0 with
      | some l => if l.length = P.cellsOf t then some l else none
      | none => none
    | _ => none

def mkRow (agg : Bool) (cs : List AV) : AV := match agg with | true => .agg cs | false => cs.headD .dead

mutual
def Fit : SC → AV → Prop
  | .int k, x => ∃ n, x = .lit (.int k n) ∧ (Lit.int k n).wf = true
  | .bool, x => ∃ b, x = .lit (.bool b)
  | .str, x => ∃ s, x = .lit (.string s) ∧ s.size ≤ maxLen
  | .sl agg row, x => ∃ rows : List (List AV), x = .sl .none row.length (rows.map (mkRow agg)) ∧ rows.length ≤ maxLen ∧ ∀ cs ∈ rows, FitL row cs
def FitL : List SC → List AV → Prop
  | [], xs => xs = []
  | c :: cs, xs => ∃ y ys, xs = y :: ys ∧ Fit c y ∧ FitL cs ys
end

theorem FitL.length : ∀ {cs : List SC} {xs : List AV}, FitL cs xs → xs.length = cs.length
  | [], xs, h => by simp only [FitL] at h; simp [h]
  | c :: cs, xs, h => by
    simp only [FitL] at h
    obtain ⟨y, ys, rfl, _, h⟩ := h
    simp [FitL.length h]

theorem FitL.append {ds : List SC} {ys : List AV} (h' : FitL ds ys) : ∀ {cs : List SC} {xs : List AV}, FitL cs xs → FitL (cs ++ ds) (xs ++ ys)
  | [], xs, h => by simp only [FitL] at h; subst h; exact h'
  | c :: cs, xs, h => by
    simp only [FitL] at h
    obtain ⟨y, zs, rfl, h1, h2⟩ := h
    simp only [List.cons_append, FitL]
    exact ⟨y, zs ++ ys, rfl, h1, FitL.append h' h2⟩

section
variable {H : Type} {enc : TypeId × Value → H} {P : Program} {W : World} {base : Nat} {sp : Nat → Bool} {held : Bool}

theorem cells?_at {a : Addr} {n : Nat} {cs : List Value} (h : W.cells? base a n = some cs) : cs.length = n ∧ ∀ r, r < n → W.cell? (a.add r) = cs[r]? := by
  unfold World.cells? at h
  split at h
  · refine ⟨by simpa using mapM_some_length h, fun r hr => mapM_some_get h r r (by simp [hr])⟩
  · cases h

theorem cell_spot {a : Addr} {u : Value} (h : W.cell? a = some u) : a.spot = none := by
  unfold World.cell? at h
  split at h
  · split at h
    · cases h
    · rename_i hs
      simpa using hs
  · cases h

theorem cell_lt {b o : Nat} {u : Value} (h : W.cell? ⟨b, o, none⟩ = some u) : b < W.heap.size := by
  unfold World.cell? at h
  split at h
  · rename_i hc
    exact (Array.getElem?_eq_some_iff.1 hc).1
  · cases h

/-- A slice's elements, one behind the other. -/
theorem open_rows {agg : Bool} {row : List SC} {b o : Nat} (hpos : 0 < row.length) (hagg : agg = true ∨ row.length = 1) :
    ∀ len : Nat, (∀ i, i < len → ∃ (cs : List Value) (xs : List AV), cs.length = row.length ∧ (∀ r, r < row.length → W.cell? ⟨b, o + i * row.length + r, none⟩ = cs[r]?) ∧ RepL (R0 W).closed xs cs ∧ FitL row xs ∧ ∀ u ∈ cs, u.oneCell' = true) →
      ∃ (rows : List (List AV)) (vs : List Value), rows.length = len ∧ RepL (R0 W).closed (rows.map (mkRow agg)) vs ∧ (∀ cs ∈ rows, FitL row cs) ∧ (∀ u ∈ vs, u.cells.size = row.length) ∧ (∀ u ∈ flat vs, u.oneCell' = true) ∧
        (flat vs).length = len * row.length ∧ ∀ (j : Nat) (u : Value), (flat vs)[j]? = some u → W.cell? ⟨b, o + j, none⟩ = some u
  | 0, _ => ⟨[], [], rfl, by simp [RepL], by simp, by simp, by simp [flat], by simp [flat], by simp [flat]⟩
  | len + 1, h => by
    obtain ⟨rows, vs, h1, h2, h3, h4, h5, h6, h7⟩ := open_rows hpos hagg len fun i hi => h i (by omega)
    obtain ⟨cs, xs, g1, g2, g3, g4, g5⟩ := h len (by omega)
    have hx : xs.length = row.length := g4.length
    have key : ∃ v : Value, v.cells.toList = cs ∧ Rep (R0 W).closed (mkRow agg xs) v := by
      cases agg with
      | true => exact ⟨.agg cs.toArray, by simp [Value.cells], by simp only [mkRow, Rep]; exact ⟨cs, rfl, g3⟩⟩
      | false =>
        have hl : row.length = 1 := by simpa using hagg
        match xs, cs, (by omega : xs.length = 1), (by omega : cs.length = 1), g3, g5 with
        | [x], [c], _, _, g3, g5 =>
          simp only [RepL] at g3
          obtain ⟨v, ws, e, hr, hw⟩ := g3
          simp only [List.cons.injEq] at e
          obtain ⟨rfl, _⟩ := e
          have := g5 c (by simp)
          refine ⟨c, ?_, hr⟩
          cases c <;> simp [Value.cells, Value.oneCell'] at this ⊢
    obtain ⟨v, hv, hr⟩ := key
    have hflat : flat (vs ++ [v]) = flat vs ++ cs := by simp [flat, hv]
    refine ⟨rows ++ [xs], vs ++ [v], by simp [h1], ?_, ?_, ?_, ?_, ?_, ?_⟩
    · rw [List.map_append]
      exact h2.append (by simp only [List.map_cons, List.map_nil, RepL]; exact ⟨v, [], rfl, hr, rfl⟩)
    · intro c hc
      rcases List.mem_append.1 hc with hc | hc
      · exact h3 c hc
      · rw [List.mem_singleton.1 hc]; exact g4
    · intro u hu
      rcases List.mem_append.1 hu with hu | hu
      · exact h4 u hu
      · rw [List.mem_singleton.1 hu, ← Array.length_toList, hv, g1]
    · rw [hflat]
      intro u hu
      rcases List.mem_append.1 hu with hu | hu
      · exact h5 u hu
      · exact g5 u hu
    · rw [hflat, List.length_append, h6, g1, Nat.succ_mul]
    · rw [hflat]
      intro j u hj
      by_cases hlt : j < len * row.length
      · rw [List.getElem?_append_left (by omega)] at hj
        exact h7 j u hj
      · rw [List.getElem?_append_right (by omega), h6] at hj
        have hr2 : j - len * row.length < cs.length := (List.getElem?_eq_some_iff.1 hj).1
        have := g2 (j - len * row.length) (by omega)
        rw [hj] at this
        rw [← this]
        congr 2
        omega

/-- A struct's fields, one behind the other. -/
theorem open_fields {f : TypeId → Option (List SC)} {n : Nat}
    (ih : ∀ (t : TypeId) (scs : List SC) (cs : List Value) (x : DataW H × List MemPlace), f t = some scs → DataW.trod enc P W base sp held n t cs = some x → ∃ xs, RepL (R0 W).closed xs cs ∧ FitL scs xs ∧ ∀ u ∈ cs, u.oneCell' = true) :
    ∀ (fs : List Field) (off : Nat) (scs : List SC) (cs : List Value), fieldTys f P fs off = some scs → cs.length = off + scs.length →
      (∀ fd ∈ fs, ∃ x, DataW.trod enc P W base sp held n fd.type ((cs.drop fd.offset).take (P.cellsOf fd.type)) = some x) → ∃ xs, RepL (R0 W).closed xs (cs.drop off) ∧ FitL scs xs ∧ ∀ u ∈ cs.drop off, u.oneCell' = true
  | [], off, scs, cs, h, hl, _ => by
    simp only [fieldTys] at h
    injection h with h
    subst h
    have : cs.drop off = [] := List.drop_eq_nil_of_le (by simp at hl; omega)
    rw [this]
    exact ⟨[], by simp [RepL], by simp [FitL], by simp⟩
  | fd :: fs, off, scs, cs, h, hl, ht => by
    simp only [fieldTys] at h
    split at h
    case h_2 => cases h
    rename_i l r h1 h2
    split at h
    case isFalse => cases h
    rename_i hc
    injection h with h
    subst h
    obtain ⟨x, hx⟩ := ht fd (by simp)
    rw [hc.1] at hx
    obtain ⟨xs, a1, a2, a3⟩ := ih fd.type l _ x h1 hx
    rw [← hc.2] at h2
    obtain ⟨ys, b1, b2, b3⟩ := open_fields ih fs (off + l.length) r cs h2 (by simp at hl; omega) fun fd' h' => ht fd' (by simp [h'])
    have e : cs.drop off = (cs.drop off).take (P.cellsOf fd.type) ++ cs.drop (off + l.length) := by
      rw [hc.2, ← List.drop_drop, List.take_append_drop]
    rw [e]
    exact ⟨xs ++ ys, a1.append b1, b2.append a2, fun u hu => (List.mem_append.1 hu).elim (a3 u) (b3 u)⟩

/-- WHAT AN ARGUMENT READS AS, of whatever type that 'cellTys' knows. -/
theorem open_cells (hcell : ∀ t e, P.underlying t = some (.slice e) → True := fun _ _ _ => trivial) : ∀ (n m : Nat) (t : TypeId) (scs : List SC) (cs : List Value) (x : DataW H × List MemPlace), cellTys P n t = some scs → DataW.trod enc P W base sp held m t cs = some x →
    ∃ xs, RepL (R0 W).closed xs cs ∧ FitL scs xs ∧ ∀ u ∈ cs, u.oneCell' = true
  | 0, m, t, scs, cs, x, h, _ => by simp [cellTys] at h
  | n + 1, 0, t, scs, cs, x, _, hx => by simp [DataW.trod] at hx
  | n + 1, m + 1, t, scs, cs, x, h, hx => by
    simp only [cellTys] at h
    split at h
    · rename_i hu
      injection h with h
      subst h
      unfold DataW.trod at hx
      rw [hu] at hx
      split at hx <;> simp_all
      rename_i b
      exact ⟨[.lit (.bool b)], by simp [RepL, Rep], by simp [FitL, Fit], rfl⟩
    · rename_i k hu
      injection h with h
      subst h
      obtain ⟨z, hz, _, hw⟩ := DataW.trod_int hu hx
      subst hz
      exact ⟨[.lit (.int k z)], by simp [RepL, Rep], by simp only [FitL, Fit]; exact ⟨_, [], rfl, ⟨z, rfl, hw⟩, rfl⟩, by simp [Value.oneCell']⟩
    · rename_i hu
      injection h with h
      subst h
      obtain ⟨z, hz, _, hw⟩ := DataW.trod_string hu hx
      subst hz
      exact ⟨[.lit (.string z)], by simp [RepL, Rep], by simp only [FitL, Fit]; exact ⟨_, [], rfl, ⟨z, rfl, hw⟩, rfl⟩, by simp [Value.oneCell']⟩
    · rename_i e hu
      split at h
      case h_2 => cases h
      rename_i row b hrow hb
      split at h
      case isFalse => cases h
      rename_i hc
      injection h with h
      subst h
      rcases DataW.trod_slice hu hx with ⟨rfl, _⟩ | ⟨a, len, cap, elems, rest, m', hm', rfl, _, hba, hlc, hcm, hel, hall, _, _⟩
      · refine ⟨[.sl .none row.length []], ?_, ?_, by simp [Value.oneCell']⟩
        · simp only [RepL, Rep]
          refine ⟨_, [], rfl, ⟨none, 0, [], rfl, by simp, by simp [RepL], by simp, by simp [flat], by simp⟩, rfl⟩
        · simp only [FitL, Fit]
          exact ⟨_, [], rfl, ⟨[], rfl, by simp, by simp⟩, rfl⟩
      · have each : ∀ i, i < len → ∃ (cs' : List Value) (x' : DataW H × List MemPlace), W.cells? base (a.add (i * P.cellsOf e)) (P.cellsOf e) = some cs' ∧ DataW.trod enc P W base sp held m' e cs' = some x' := by
          intro i hi
          have h1 := hall i hi
          rw [List.getElem?_eq_getElem (by omega)] at h1
          obtain ⟨cs', h2, h3⟩ := Option.bind_eq_some_iff.1 h1
          exact ⟨cs', _, h2, h3⟩
        have spot : 0 < len → a.spot = none := by
          intro hl
          obtain ⟨cs', _, h1, _⟩ := each 0 hl
          obtain ⟨hlen, hget⟩ := cells?_at h1
          have h2 := hget 0 (by omega)
          rw [List.getElem?_eq_getElem (by omega)] at h2
          have := cell_spot h2
          simpa [Addr.add] using this
        obtain ⟨rows, vs, r1, r2, r3, r4, r5, r6, r7⟩ := open_rows (W := W) (agg := b) (row := row) (b := a.block) (o := a.off) hc.2.1 hc.2.2 len (fun i hi => by
          obtain ⟨cs', x', h1, h2⟩ := each i hi
          obtain ⟨hlen, hget⟩ := cells?_at h1
          obtain ⟨xs, i1, i2, i3⟩ := open_cells hcell n m' e row cs' x' hrow h2
          refine ⟨cs', xs, by omega, fun r hr => ?_, i1, i2, i3⟩
          rw [← hget r (by omega), hc.1]
          have hsp := spot (by omega)
          obtain ⟨ab, ao, asp⟩ := a
          simp only at hsp
          subst hsp
          by_cases hi0 : i * P.cellsOf e = 0
          · by_cases hr0 : r = 0
            · subst hr0; simp [Addr.add, hi0]
            · simp [Addr.add, hi0, hr0]
          · by_cases hr0 : r = 0
            · subst hr0; simp [Addr.add, hi0]
            · simp [Addr.add, hi0, hr0])
        refine ⟨[.sl .none row.length (rows.map (mkRow b))], ?_, ?_, by simp [Value.oneCell']⟩
        · simp only [RepL, Rep]
          refine ⟨_, [], rfl, ⟨some a, cap, vs, by rw [List.length_map, r1], by rw [List.length_map]; omega, r2, r4, r5, ?_⟩, rfl⟩
          intro hne
          have hpos : 0 < len := by
            rcases Nat.eq_zero_or_pos len with h0 | h0
            · have : rows = [] := List.eq_nil_of_length_eq_zero (by omega)
              subst this
              exact absurd rfl hne
            · exact h0
          have hsp := spot hpos
          refine ⟨a.block, a.off, ?_, fun j u hj => ⟨?_, r7 j u hj⟩⟩
          · obtain ⟨ab, ao, asp⟩ := a
            simp only at hsp
            subst hsp
            rfl
          · exact cell_lt (r7 j u hj)
        · simp only [FitL, Fit]
          exact ⟨_, [], rfl, ⟨rows, rfl, by omega, r3⟩, rfl⟩
    · rename_i fs hu
      split at h
      case h_2 => cases h
      rename_i l hl
      split at h
      case isFalse => cases h
      rename_i hlen
      injection h with h
      subst h
      obtain ⟨xs, m', hm', _, hcl, hxl, hf⟩ := DataW.trod_struct hu hx
      have hmm : m' = m := by omega
      subst hmm
      have := open_fields (H := H) (enc := enc) (P := P) (W := W) (base := base) (sp := sp) (held := held) (n := m') (f := cellTys P n) (fun t scs cs x h1 h2 => open_cells hcell n m' t scs cs x h1 h2) fs.toList 0 l cs hl (by omega) (by
        intro fd hfd
        obtain ⟨i, hi, e⟩ := List.mem_iff_getElem.1 hfd
        have hi' : fs[i]? = some fd := by
          rw [← e]
          simp only [Array.length_toList] at hi
          simp [hi]
        have h1 := hf i fd hi'
        rw [List.getElem?_eq_getElem (by have := (Array.getElem?_eq_some_iff.1 hi').1; omega)] at h1
        exact ⟨_, h1⟩)
      simpa using this
    · cases h

theorem okWide_flat {r : Reach} {t : TypeId} {v : Value} (h : Value.okWide P W r base t v) (ht : isAggB P t = some false) : v.cells.toList = [v] := by
  unfold isAggB at ht
  unfold Value.okWide at h
  cases hu : P.underlying t with
  | none => rw [hu] at ht; cases ht
  | some d =>
    cases d <;> simp only [hu, Option.some.injEq, Bool.true_eq_false] at ht h
    all_goals
      unfold Cell.okWide at h
      rw [hu] at h
      cases v <;> first | rfl | (exfalso; simp [Cell.ok, hu] at h)

theorem okWide_agg {r : Reach} {t : TypeId} {v : Value} (h : Value.okWide P W r base t v) (ht : isAggB P t = some true) : ∃ cs : Array Value, v = .agg cs := by
  unfold isAggB at ht
  unfold Value.okWide at h
  cases hu : P.underlying t with
  | none => rw [hu] at ht; cases ht
  | some d =>
    cases d <;> simp only [hu, Option.some.injEq, Bool.false_eq_true] at ht h
    all_goals (obtain ⟨cs, rfl, _⟩ := h; exact ⟨cs, rfl⟩)

/-- One argument, opened. -/
theorem open_arg {r : Reach} {n : Nat} {t : TypeId} {v : Value} {d : DataW H} {p : List MemPlace} {scs : List SC} {b : Bool} (hc : cellTys P n t = some scs) (hb : isAggB P t = some b) (hok : Value.okWide P W r base t v) {base' : Nat}
    (h : DataW.Trod enc P W base' sp held t v d p) : ∃ cs, Rep (R0 W) (mkRow b cs) v ∧ FitL scs cs := by
  obtain ⟨m, h⟩ := h
  obtain ⟨xs, h1, h2, h3⟩ := open_cells (fun _ _ _ => trivial) n m t scs _ _ hc h
  refine ⟨xs, ?_, h2⟩
  cases b with
  | true =>
    obtain ⟨cs, rfl⟩ := okWide_agg hok hb
    have : Rep (R0 W).closed (.agg xs) (.agg cs) := by simp only [Rep]; exact ⟨cs.toList, by simp, h1⟩
    exact this.mono (R0_ext W)
  | false =>
    rw [okWide_flat hok hb] at h1
    match xs, h1 with
    | [], h1 => simp [RepL] at h1
    | x :: xs, h1 =>
      simp only [RepL] at h1
      obtain ⟨w, ws, e, hr, _⟩ := h1
      simp only [List.cons.injEq] at e
      obtain ⟨rfl, _⟩ := e
      exact hr.mono (R0_ext W)

theorem trodAll_stays (hl : laidOutB P = true) {W' : World} (hb : Below W.heap.size W W') {sp' : Nat → Bool} : ∀ {ts : List TypeId} {vs : List Value} {ds : List (DataW H)} {ps : List MemPlace}, (∀ t ∈ ts, P.readableRec t = true ∧ t < P.types.size) →
    DataW.TrodAll enc P W 0 (fun _ => true) true ts vs ds ps → (∀ p ∈ ps, p.block < W.heap.size) → (∀ p ∈ ps, sp' p.block = true) → DataW.TrodAll enc P W' 0 sp' true ts vs ds ps
  | [], _, _, _, _, h, _, _ => by
    obtain ⟨rfl, rfl, rfl⟩ := trodAll_nil h
    exact trodAll_mk0
  | t :: ts, _, _, _, ht, h, hlt, hs => by
    obtain ⟨v, vs, d, ds, a, b, rfl, rfl, rfl, h1, h2⟩ := trodAll_cons h
    exact ⟨a, b, WideElems.Trod_stays hl (ht t (by simp)).1 (ht t (by simp)).2 h1 (fun x hx => hb.same (hlt x (by simp [hx]))) (fun x hx => hs x (by simp [hx])),
      trodAll_stays hl hb (fun t' h' => ht t' (by simp [h'])) h2 (fun x hx => hlt x (by simp [hx])) (fun x hx => hs x (by simp [hx])), rfl⟩

theorem post_of_below {f : Func} {s : ChangeSpec} {apart fresh handsOn again : Bool} {W' : World} {args : Array Value} {v : Value} {ds gs : List (DataW H)} {before pa pv : List MemPlace}
    (hW : DataW.Whole enc P f.params.toList s.vars apart W args.toList ds gs before) (hb : Below W.heap.size W W')
    (hres : ∀ (b : Nat) (sp : Nat → Bool) (hd : Bool), DataW.TrodAll enc P W' b sp hd f.resultTypes.toList (v.resultList f.resultTypes.size) (s.fn H (ds ++ gs)).results [])
    (hargs : ∀ sp : Nat → Bool, (∀ p ∈ before, sp p.block = true) → DataW.TrodAll enc P W' 0 sp true f.params.toList args.toList (s.fn H (ds ++ gs)).args pa)
    (hvars : ∀ sp : Nat → Bool, (∀ p ∈ before, sp p.block = true) → DataW.TrodVars enc P W' sp s.vars (s.fn H (ds ++ gs)).vars pv)
    (hps : before = pa ++ pv)
    (hok : ∀ (j : Nat) (t : TypeId) (r : Value), f.resultTypes[j]? = some t → (v.resultList f.resultTypes.size)[j]? = some r → Value.okWide P W' .any 0 t r) :
    s.post enc P f apart fresh handsOn again W args v W' := by
  have hold : ∀ p ∈ before, (fun b => decide (b < W.heap.size)) p.block = true := fun p hp => by simpa using hW.lt p hp
  refine ⟨ds, gs, before, [], pa, pv, hW, hres _ _ _, hargs _ hold, hvars _ hold, World.keptBut_mono (fun p hp => ⟨hp, ?_⟩) (hb.frame (· ∈ before)), fun _ => ?_⟩
  · rw [hps, List.mem_append] at hp
    exact Or.inr hp
  · have hlt := hW.lt
    obtain ⟨_, _, _, _, _, hz, hn⟩ := hW
    refine ⟨hok, _, _, ([] ++ pa) ++ pv, ⟨[] ++ pa, pv, trodAll_append (hargs _ (fun _ _ => rfl)) (hres _ _ _), hvars _ (fun _ _ => rfl), rfl, ?_, ?_⟩, ?_⟩
    · intro b off hp
      have hp' : MemPlace.cell b off ∈ before := by rw [hps]; simpa using hp
      rw [hb.frozen (hlt _ hp')]
      exact hz b off hp'
    · intro ha
      have := hn ha
      rw [hps] at this
      simpa using this
    · intro p hp _
      rw [hps]
      simpa using hp

/-- A LAW'S CONTRACT, CLOSED. -/
theorem calls_true {f : FuncId} {fn : Func} {s : ChangeSpec} {apart fresh handsOn again : Bool} {args : Array Value} {ds gs : List (DataW H)} {before : List MemPlace} {xs : List AV} {tb : TypeId}
    (hl : laidOutB P = true) (hp : ∀ t ∈ fn.params.toList, P.readableRec t = true ∧ t < P.types.size) (hres : fn.resultTypes = #[tb]) (htb : P.underlying tb = some .bool) (hvars : s.vars = [])
    (hs : s.fn H ds = { results := [.lit (.bool true)], args := ds })
    (hW : DataW.Whole enc P fn.params.toList s.vars apart W args.toList ds gs before) (hg : SentAt W) (hgd : GOK fun g => W.heap[g]?)
    (hAC : AC P f xs (.lit (.bool true))) (hrep : RepL (R0 W) xs args.toList) : Calls P f args W fun e W' => ∃ v, e = .returned v ∧ s.post enc P fn apart fresh handsOn again W args v W' := by
  have hc := AM.calls hAC (R0 W) args.toList (R0_start W hg hgd) (fun c b h => by cases h) (fun c cs h => by cases h) hrep
  have e : args.toList.toArray = args := by simp
  rw [e] at hc
  refine hc.mono fun e W' ⟨v, E', he, hw, hr, ha, _⟩ => ⟨v, he, ?_⟩
  simp only [Rep] at hr
  subst hr hw
  have hb : Below W.heap.size W E'.w := ha.below.below fun k ⟨c, hc⟩ => by cases hc
  have hlt := hW.lt
  obtain ⟨p, q, hA, hV, hpq, hz, hn⟩ := hW
  have hV' := hV
  rw [hvars] at hV'
  have hgq : gs = [] ∧ q = [] := by
    cases gs with
    | nil => exact ⟨rfl, hV'⟩
    | cons g gs => exact (hV' : False).elim
  obtain ⟨rfl, rfl⟩ := hgq
  rw [List.append_nil] at hpq
  subst hpq
  refine post_of_below (pa := before) (pv := []) ⟨before, [], hA, hV, by simp, hz, hn⟩ hb (fun b sp hd => ?_) (fun sp hsp => ?_) (fun sp _ => ?_) (by simp) (ok_one hres rfl (okWide_bool_mk htb _))
  · rw [List.append_nil, hs, hres]
    exact trodAll_mk1 ⟨1, by simp [DataW.trod, htb, Value.cells]⟩
  · rw [List.append_nil, hs]
    exact trodAll_stays hl hb hp hA hlt hsp
  · rw [List.append_nil, hs, hvars]
    rfl

def argTys (P : Program) (n : Nat) : List TypeId → Option (List (List SC × Bool))
  | [] => some []
  | t :: ts => match cellTys P n t, isAggB P t, argTys P n ts with
    | some l, some b, some r => some ((l, b) :: r)
    | _, _, _ => none

def ArgsFit : List (List SC × Bool) → List AV → Prop
  | [], xs => xs = []
  | (scs, b) :: ts, xs => ∃ cs r, xs = mkRow b cs :: r ∧ FitL scs cs ∧ ArgsFit ts r

theorem open_args {n : Nat} : ∀ {ts : List TypeId} {tys : List (List SC × Bool)} {vs : List Value} {ds : List (DataW H)} {ps : List MemPlace}, argTys P n ts = some tys → DataW.TrodAll enc P W 0 sp held ts vs ds ps →
    (∀ (j : Nat) t v, ts[j]? = some t → vs[j]? = some v → Value.okWide P W .any base t v) → ∃ xs, RepL (R0 W) xs vs ∧ ArgsFit tys xs
  | [], tys, _, _, _, ht, h, _ => by
    obtain ⟨rfl, rfl, rfl⟩ := trodAll_nil h
    simp only [argTys] at ht
    injection ht with ht
    subst ht
    exact ⟨[], by simp [RepL], by simp [ArgsFit]⟩
  | t :: ts, tys, _, _, _, ht, h, hok => by
    obtain ⟨v, vs, d, ds, a, b, rfl, rfl, rfl, h1, h2⟩ := trodAll_cons h
    simp only [argTys] at ht
    split at ht
    case h_2 => cases ht
    rename_i l b r e1 e2 e3
    injection ht with ht
    subst ht
    obtain ⟨cs, g1, g2⟩ := open_arg e1 e2 (hok 0 t v rfl rfl) h1
    obtain ⟨xs, g3, g4⟩ := open_args e3 h2 fun j t v ht hv => hok (j + 1) t v (by simpa using ht) (by simpa using hv)
    exact ⟨mkRow b cs :: xs, by simp only [RepL]; exact ⟨v, vs, rfl, g1, g3⟩, by simp only [ArgsFit]; exact ⟨cs, xs, rfl, g2, g4⟩⟩

/-- What is asked of a law's text: all closed. -/
def lawOf (P : Program) (fn : Func) (n : Nat) : Bool × Option (List (List SC × Bool)) × Bool :=
  (laidOutB P, argTys P n fn.params.toList, (fn.params.toList.all fun t => P.readableRec t && decide (t < P.types.size)) && (match fn.resultTypes.toList with
    | [t] => (match P.underlying t with
      | some .bool => true
      | _ => false)
    | _ => false))

theorem law_calls {f : FuncId} {fn : Func} {s : ChangeSpec} {apart fresh handsOn again : Bool} {args : Array Value} {ds gs : List (DataW H)} {before : List MemPlace} {n : Nat} {tys : List (List SC × Bool)} (hc : lawOf P fn n = (true, some tys, true)) (hvars : s.vars = [])
    (hs : ∀ ds : List (DataW H), ds.length = tys.length → s.fn H ds = { results := [.lit (.bool true)], args := ds })
    (hval : ∀ (j : Nat) t v, fn.params[j]? = some t → args[j]? = some v → Value.okWide P W .any base t v)
    (hW : DataW.Whole enc P fn.params.toList s.vars apart W args.toList ds gs before) (hg : SentAt W) (hgd : GOK fun g => W.heap[g]?)
    (hAC : ∀ xs, ArgsFit tys xs → AC P f xs (.lit (.bool true))) : Calls P f args W fun e W' => ∃ v, e = .returned v ∧ s.post enc P fn apart fresh handsOn again W args v W' := by
  simp only [lawOf, Prod.mk.injEq, Bool.and_eq_true, List.all_eq_true, decide_eq_true_eq] at hc
  obtain ⟨h1, h2, h3, h4⟩ := hc
  obtain ⟨p, q, hA, hV, hpq, hz, hn⟩ := hW
  obtain ⟨xs, hr, hf⟩ := open_args h2 hA fun j t v ht hv => hval j t v (by simpa using ht) (by simpa using hv)
  have hlen : ds.length = tys.length := by
    have e1 := trods hA
    have e2 := argTys_length h2
    omega
  split at h4
  case h_2 => cases h4
  rename_i tb hrt
  split at h4
  case h_2 => cases h4
  rename_i hb
  exact calls_true h1 h3 (by rw [← Array.toList_inj]; simpa using hrt) hb hvars (hs ds hlen) ⟨p, q, hA, hV, hpq, hz, hn⟩ hg hgd (hAC xs hf) hr
where
  argTys_length : ∀ {ts : List TypeId} {tys : List (List SC × Bool)}, argTys P n ts = some tys → tys.length = ts.length
    | [], tys, h => by simp only [argTys] at h; injection h with h; subst h; rfl
    | t :: ts, tys, h => by
      simp only [argTys] at h
      split at h
      case h_2 => cases h
      rename_i e
      injection h with h
      subst h
      simp [argTys_length e]
  trods : ∀ {ts : List TypeId} {vs : List Value} {ds : List (DataW H)} {ps : List MemPlace}, DataW.TrodAll enc P W 0 (fun _ => true) true ts vs ds ps → ds.length = ts.length
    | [], _, _, _, h => by
      obtain ⟨rfl, rfl, rfl⟩ := trodAll_nil h
      rfl
    | t :: ts, _, _, _, h => by
      obtain ⟨v, vs, d, ds, a, b, rfl, rfl, rfl, h1, h2⟩ := trodAll_cons h
      simp [trods h2]

end
end Go.Proofs.Ytmjmfollimaleaa.VL
