/- The value logic, part 10: append, slice literals, local variables: their steps. -/
import Derived.Test.YtmjmfollimaleaaVL9
set_option linter.unusedVariables false
set_option linter.unusedSimpArgs false
namespace Go.Proofs.Ytmjmfollimaleaa.VL
open Go.RowKit

section
variable {P : Program} {R : RE} {N : Nat} {env : Env} {a : Act} {E : RE}

theorem Ext.drew (E : RE) : Ext E { E with w := E.w.drew } :=
  ⟨fun _ _ h => h, fun _ h => h, fun _ _ _ _ h => h, fun _ _ _ _ h => h, fun _ _ h => h, fun _ _ h => ⟨h, rfl, fun _ h => h⟩, rfl, fun _ _ h => ⟨h, rfl⟩⟩

theorem Inv.drew (h : Inv R N env a E) : Inv R N env a { E with w := E.w.drew } := by
  have hx := Ext.drew E
  refine ⟨h.defers, h.Nlim, h.lentl, h.size, h.B, h.Bok, h.below.drew, h.Mlt, h.MS, h.par, h.G, h.S0, h.Slt, h.ownlt, h.own1, fun c b hb => ?_, h.locd, h.loc1, h.mlocc, h.mloc1, fun k => (h.slots k).mono hx⟩
  obtain ⟨h1, h2, h3, cs, vals, ty, hcs, hh, hr, ho⟩ := h.locc c b hb
  exact ⟨h1, h2, h3, cs, vals, ty, hcs, hh, hr.mono hx, ho⟩

/-- What is owned is written behind its end. -/
theorem Inv.grow (h : Inv R N env a E) {τ τ' : List Nat} {g cap e : Nat} {cur : Array Value} {ty : TypeId} {rows rows' : List AV} {vs vs' : List Value}
    (hh : E.w.heap[g]? = some (.cells cur ty (0, 0))) (hown : E.own g τ) (hS : ∀ o, E.S g o → o < rows.length * e) (hat : At E.w E.S (flat vs) g 0)
    (hr : RepL E.closed rows vs) (hr' : RepL E.closed rows' vs') (he : ∀ u ∈ vs, u.cells.size = e) (he' : ∀ u ∈ vs', u.cells.size = e) (ho : ∀ u ∈ flat vs, u.oneCell' = true) (ho' : ∀ u ∈ flat vs', u.oneCell' = true)
    (hcap : rows.length + rows'.length ≤ cap) (hm : cap ≤ maxLen) (hc : cur.size = cap * e) :
    ∃ E', E'.w = E.w.setRow g (cur.toList.take (rows.length * e) ++ flat vs' ++ cur.toList.drop (rows.length * e + (flat vs').length)).toArray ∧ Inv R N (env.strip τ) a E' ∧
      Rep E' (.sl (.own τ') e (rows ++ rows')) (.slice (some ⟨g, 0, none⟩) (rows.length + rows'.length) cap) := by
  have hvl := hr.length
  have hvl' := hr'.length
  have hfl := flat_length he
  have hfl' := flat_length he'
  have hI := h.unownT τ
  have hglt := (h.ownlt g τ hown).2
  have hgB := (h.ownlt g τ hown).1
  have hnl : ∀ c, E.loc c ≠ some g := fun c hc => (h.locc c g hc).2.2.1 τ hown
  have hno : ∀ t, ¬ (E.unown τ).own g t := fun t ht => ht.2 (h.own1 g t τ ht.1 hown)
  have hle : rows.length * e + rows'.length * e ≤ cap * e := by rw [← Nat.add_mul]; exact Nat.mul_le_mul_right _ hcap
  have htake : (cur.toList.take (rows.length * e)) = flat vs := by
    apply List.ext_getElem?
    intro j
    rw [List.getElem?_take]
    split
    · rename_i hj
      have hjl : j < (flat vs).length := by rw [hfl, hvl]; exact hj
      have h1 := (hat j _ (List.getElem?_eq_getElem hjl)).2
      simp only [World.cell?, hh, Nat.zero_add] at h1
      rw [List.getElem?_eq_getElem hjl]
      simpa using h1
    · rename_i hj
      rw [List.getElem?_eq_none (by rw [hfl, hvl]; omega)]
  let new : Array Value := (cur.toList.take (rows.length * e) ++ flat vs' ++ cur.toList.drop (rows.length * e + (flat vs').length)).toArray
  have hnewsz : new.size = cap * e := by
    simp only [new, List.size_toArray, List.length_append, List.length_take, List.length_drop, Array.length_toList, hc, hfl', hvl']
    omega
  have hnew : ∀ (j : Nat) (u : Value), (flat (vs ++ vs'))[j]? = some u → new[j]? = some u := by
    intro j u hj
    have e1 : flat (vs ++ vs') = flat vs ++ flat vs' := by simp [flat]
    rw [e1] at hj
    have hjl := (List.getElem?_eq_some_iff.1 hj).1
    simp only [new, List.getElem?_toArray]
    rw [htake, List.getElem?_append_left hjl]
    exact hj
  let E' : RE := { E.unown τ with w := E.w.setRow g new, S := fun b o => E.S b o ∨ (b = g ∧ o < (rows.length + rows'.length) * e), own := fun b t => (E.unown τ).own b t ∨ (b = g ∧ t = τ') }
  have hother : ∀ b, b ≠ g → (E.w.setRow g new).heap[b]? = E.w.heap[b]? := fun b hb => setRow_other E.w g b new hb
  have hself : (E.w.setRow g new).heap[g]? = some (.cells new ty (0, 0)) := setRow_heap E.w g cur new ty (0, 0) hh
  have hx : Ext (E.unown τ) E' := by
    refine ⟨fun _ _ h => .inl h, fun _ h => h, fun b o u hs hcell => ?_, fun b es ck hs hmap => ?_, fun c b hc => hc, fun b t ht => ⟨.inl ht, ?_, fun o hs => ?_⟩, rfl, fun c b hc => ⟨hc, hother b fun e => (h.mlocc c b hc).2.2.2.1 τ (e ▸ hown)⟩⟩
    · by_cases hb : b = g
      · subst hb
        have ho1 : o < rows.length * e := by
          rcases hs with hs | hs
          · exact hS o hs
          · have := (h.Bok b hs).1; omega
        have hol : o < (flat vs).length := by rw [hfl, hvl]; exact ho1
        have h1 := (hat o _ (List.getElem?_eq_getElem hol)).2
        rw [Nat.zero_add] at h1
        have h2 : E.w.cell? ⟨b, o, none⟩ = some u := hcell
        rw [h1] at h2
        injection h2 with h2
        show (E.w.setRow b new).cell? ⟨b, o, none⟩ = some u
        simp only [World.cell?, hself]
        have h3 := hnew o u (by rw [show flat (vs ++ vs') = flat vs ++ flat vs' by simp [flat], List.getElem?_append_left hol, List.getElem?_eq_getElem hol, h2])
        simpa using h3
      · show (E.w.setRow g new).cell? ⟨b, o, none⟩ = some u
        simp only [World.cell?, hother b hb]
        exact hcell
    · by_cases hb : b = g
      · subst hb
        have : E.w.heap[b]? = some (.map es ck) := hmap
        rw [hh] at this
        cases this
      · exact (hother b hb).trans hmap
    · have hb : b ≠ g := fun e => hno t (e ▸ ht)
      exact hother b hb
    · rcases hs with hs | ⟨hb, _⟩
      · exact hs
      · exact absurd ht (hb ▸ hno t)
  refine ⟨E', rfl, ⟨hI.defers, hI.Nlim, hI.lentl, hI.size, hI.B, hI.Bok, belowX_setRow hI.below (.inl hgB) new, hI.Mlt, fun k hk o hs => ?_, hI.par, hI.G, fun b o hb => ?_, fun b o hb => ?_, fun b t ht => ?_, fun b t t' h1 h2 => ?_, fun c b hb => ?_, hI.locd, hI.loc1, fun c b hc => ?_, hI.mloc1, fun k => (hI.slots k).mono hx⟩, ?_⟩
  · rcases hs with hs | ⟨hs, _⟩
    · exact h.MS k hk o hs
    · have := h.Mlt k hk; omega
  · rw [← h.S0 b o hb]
    constructor
    · rintro (hs | ⟨hs, _⟩)
      · exact hs
      · omega
    · exact .inl
  · show b < (E.w.setRow g new).heap.size
    rw [setRow_size]
    rcases hb with hb | ⟨hb, _⟩
    · exact h.Slt b o hb
    · omega
  · show _ ∧ b < (E.w.setRow g new).heap.size
    rw [setRow_size]
    rcases ht with ht | ⟨ht, _⟩
    · exact hI.ownlt b t ht
    · subst ht; exact ⟨hgB, hglt⟩
  · rcases h1 with h1 | ⟨h1, rfl⟩ <;> rcases h2 with h2 | ⟨h2, rfl⟩
    · exact hI.own1 b t t' h1 h2
    · exact absurd h1 (h2 ▸ hno t)
    · exact absurd h2 (h1 ▸ hno t')
    · rfl
  · obtain ⟨h1, h2, h3, cs', vals', ty', hcs, hh', hrr, ho1⟩ := hI.locc c b hb
    have hbg : b ≠ g := fun e => hnl c (e ▸ hb)
    refine ⟨h1, fun o hs => ?_, fun t ht => ?_, cs', vals', ty', hcs, (hother b hbg).trans hh', hrr.mono hx, ho1⟩
    · rcases hs with hs | ⟨hs, _⟩
      · exact h2 o hs
      · exact hbg hs
    · rcases ht with ht | ⟨ht, _⟩
      · exact h3 t ht
      · exact hbg ht
  · obtain ⟨h1, h2, h3, h4, h5⟩ := h.mlocc c b hc
    have hbg : b ≠ g := fun e => h4 τ (e ▸ hown)
    refine ⟨h1, by show b < (E.w.setRow g new).heap.size; rw [setRow_size]; exact h2, fun o hs => ?_, fun t ht => ?_, h5⟩
    · rcases hs with hs | ⟨hs, _⟩
      · exact h3 o hs
      · exact hbg hs
    · rcases ht with ht | ⟨ht, _⟩
      · exact h4 t ht.1
      · exact hbg ht
  · simp only [Rep]
    have hcl : Ext E.closed E'.closed := by
      have := hx.closed
      rwa [RE.unown_closed] at this
    refine ⟨_, cap, vs ++ vs', by rw [List.length_append], by rw [List.length_append]; exact hcap, (hr.mono hcl).append (hr'.mono hcl), ?_, ?_, .inr ⟨g, new, ty, rfl, ?_, hself, hm, hnewsz, .inr ⟨rfl, rfl⟩, fun o hs => ?_⟩⟩
    · intro u hu
      rcases List.mem_append.1 hu with hu | hu
      · exact he u hu
      · exact he' u hu
    · intro u hu
      rw [show flat (vs ++ vs') = flat vs ++ flat vs' by simp [flat]] at hu
      rcases List.mem_append.1 hu with hu | hu
      · exact ho u hu
      · exact ho' u hu
    · intro j u hj
      have hjl := (List.getElem?_eq_some_iff.1 hj).1
      rw [show flat (vs ++ vs') = flat vs ++ flat vs' by simp [flat], List.length_append, hfl, hfl', hvl, hvl', ← Nat.add_mul] at hjl
      refine ⟨.inr ⟨rfl, by omega⟩, ?_⟩
      show (E.w.setRow g new).cell? _ = some u
      simp only [World.cell?, hself, Nat.zero_add]
      simpa using hnew j u hj
    · rw [List.length_append]
      rcases hs with hs | ⟨_, hs⟩
      · have := hS o hs
        have h2 : rows.length * e ≤ (rows.length + rows'.length) * e := Nat.mul_le_mul_right _ (by omega)
        omega
      · exact hs

theorem size_zeroCells' {z : Value} {s n : Nat} (hz : z.cells.size = s) : (Builtin.zeroCells z.cells n).toList.length = n * s := by
  rw [Array.length_toList, size_zeroCells, hz]

theorem run_app_zero {t ty e : TypeId} {i : TypeInfo} (ht : P.underlying t = some (.slice e)) (hi : P.info? e = some i) {w : World} {c : Nat} {A B : Option Addr} :
    (Builtin.append_ #[t, t] ty #[.slice A 0 0, .slice B 0 c]).run P w = .ok (.slice A 0 0) w := by
  cases A <;> cases B <;> simp [Builtin.append_, run_underlying ht, sizeOf, typeInfo, hi, Builtin.lenOf, Builtin.firstCells, loadCells, loadCellsFrom, storeCells, Sem.run]

theorem zeroCells_one {z : Array Value} (h1 : ∀ u ∈ z.toList, u.oneCell' = true) (hpos : 0 < z.size) (n : Nat) : ∀ u ∈ (Builtin.zeroCells z n).toList, u.oneCell' = true := by
  intro u hu
  simp only [Builtin.zeroCells, Array.toList_map, List.mem_map] at hu
  obtain ⟨i, _, rfl⟩ := hu
  have hlt : i % z.size < z.size := Nat.mod_lt _ hpos
  have : z[i % z.size]! = z[i % z.size] := by simp [hlt]
  rw [this]
  exact h1 _ (by simp)

theorem wp_app (hI : Inv R N env a E) {o : Oper} {c : Call} {t e : TypeId} {i : TypeInfo} {z : Value} {x y : Operand} {d : Nat} (ho : o.op = .call c) (hd : o.dst = some d) (hdN : d < N) (hc : c.callee = .builtin .append)
    (hat : c.argTypes.toList = [t, t]) (har : c.args.toList = [x, y]) (ht : P.underlying t = some (.slice e)) (hi : P.info? e = some i) (hz : i.zero = some z) (hzs : z.cells.size = i.size) (hsz : 0 < i.size) (hz1 : (z.cells.toList.all fun u => u.oneCell') = true)
    {env' : Env} (h : stepApp i.size i.bytes d (env.ev x) (env.ev y) env = some env')
    {K : Act → World → Prop} {Q : Exit → Act → World → Prop} (hK : ∀ v E', Inv R N env' (a.put (some d) v) E' → K (a.put (some d) v) E'.w) : o.wp P a E.w K Q := by
  have hargs : c.args = #[x, y] := by rw [← Array.toArray_toList (xs := c.args), har]
  have hats : c.argTypes = #[t, t] := by rw [← Array.toArray_toList (xs := c.argTypes), hat]
  have hx := hI.ev x
  have hy := hI.ev y
  have wpof : ∀ {v : Value} {w' : World}, (Builtin.append_ #[t, t] o.type #[a.eval x, a.eval y]).run P E.w = .ok v w' → K (a.put (some d) v) w' → o.wp P a E.w K Q := by
    intro v w' hr hk
    unfold Oper.wp
    have hex : (execOp a.eval o).run P E.w = .ok (.value v) w' := by
      simp [execOp, ho, hc, hargs, hats, resolve, invoke, builtin, Sem.run_bind, hr, Sem.run]
    rw [hex, Oper.upon_value, hd]
    exact hk
  have hz1' : ∀ u ∈ z.cells.toList, u.oneCell' = true := fun u hu => (List.all_eq_true.1 hz1) u hu
  unfold stepApp at h
  split at h
  case h_2 => cases h
  rename_i tk' e' rows' hyv
  rw [hyv] at hy
  split at h
  case isFalse => cases h
  rename_i hee
  obtain ⟨hgn, hee⟩ := hee
  -- what is appended, read at the element's size
  have hy' : ∃ B cap' vs', a.eval y = .slice B rows'.length cap' ∧ RepL E.closed rows' vs' ∧ (∀ u ∈ vs', u.cells.size = i.size) ∧ (∀ u ∈ flat vs', u.oneCell' = true) ∧
      (Builtin.firstCells i.size rows'.length (a.eval y)).run P E.w = .ok (flat vs').toArray E.w ∧ (Builtin.firstCells i.size rows'.length (a.eval y)).run P E.w.drew = .ok (flat vs').toArray E.w.drew := by
    rcases hee with rfl | hnil
    · exact run_first hgn hy
    · obtain ⟨B, cap', vs', e1, h1, h2, h3, h4, h5⟩ := run_first (P := P) hgn hy
      subst hnil
      have hl := h1.length
      simp at hl
      subst hl
      refine ⟨B, cap', [], e1, h1, by simp, by simp [flat], ?_, ?_⟩
      · rw [e1]; cases B <;> simp [Builtin.firstCells, flat, loadCells, loadCellsFrom, Sem.run]
      · rw [e1]; cases B <;> simp [Builtin.firstCells, flat, loadCells, loadCellsFrom, Sem.run]
  obtain ⟨B, cap', vs', ey, hr', he', ho', hf1, hf2⟩ := hy'
  rw [ey] at hf1 hf2
  have hvl' := hr'.length
  have hfl' := flat_length he'
  split at h
  · -- onto what nobody else knows
    rename_i τ e1 rows hxv
    rw [hxv] at hx
    split at h
    case isFalse => cases h
    rename_i he1
    subst he1
    split at h
    case isFalse => cases h
    rename_i hb
    injection h with h
    subst h
    obtain ⟨A, cap, vs, ex, hr, he, ho1, hfo1, hfo2⟩ := run_first (P := P) rfl hx
    have hvl := hr.length
    have hfl := flat_length he
    have hmul : (rows.length + rows'.length) * i.bytes ≤ 140737488355328 := by
      have := Nat.mul_le_mul hb.1 hb.2
      omega
    have hfa : flat (vs ++ vs') = flat vs ++ flat vs' := by simp [flat]
    simp only [Rep] at hx
    obtain ⟨A2, cap2, vs2, ex2, hcap, hr2, he2, ho2, htk⟩ := hx
    rw [ex] at ex2
    injection ex2 with q1 _ q2
    subst q1 q2
    by_cases hroom : rows.length + rows'.length ≤ cap
    · rcases htk with ⟨hrn, hc0⟩ | ⟨g, cur, ty, hA, hat', hh, hm, hcs, hown, hgS, hone⟩
      · subst hrn hc0
        have h2 : rows' = [] := by
          apply List.eq_nil_of_length_eq_zero
          have : (0 : Nat) + rows'.length ≤ 0 := hroom
          omega
        subst h2
        refine wpof (by rw [ex, ey]; exact run_app_zero ht hi) (hK _ _ ((hI.unownT τ).put hdN ?_))
        simp only [Rep]
        exact ⟨A, 0, [], rfl, Nat.le_refl _, by simp [RepL], by simp, by simp [flat], .inl ⟨rfl, rfl⟩⟩
      · subst hA
        have hvl2 := hr2.length
        have hfl2 := flat_length he2
        have hrun := run_app_room (P := P) (ty := o.type) ht hi hh hf1 (n := rows.length) (cap := cap) (by rw [hfl', hvl']) ho' hroom (by rw [hfl', hvl', hcs, ← Nat.add_mul]; exact Nat.mul_le_mul_right _ hroom)
        obtain ⟨new, hnewdef⟩ : ∃ new, new = (cur.toList.take (rows.length * i.size) ++ flat vs' ++ cur.toList.drop (rows.length * i.size + (flat vs').length)).toArray := ⟨_, rfl⟩
        rw [← hnewdef] at hrun
        have hle : rows.length * i.size + rows'.length * i.size ≤ cap * i.size := by rw [← Nat.add_mul]; exact Nat.mul_le_mul_right _ hroom
        have htake : (cur.toList.take (rows.length * i.size)) = flat vs2 := by
          apply List.ext_getElem?
          intro j
          rw [List.getElem?_take]
          split
          · rename_i hj
            have hjl : j < (flat vs2).length := by rw [hfl2, hvl2]; exact hj
            have h1 := (hat' j _ (List.getElem?_eq_getElem hjl)).2
            simp only [World.cell?, hh, Nat.zero_add] at h1
            rw [List.getElem?_eq_getElem hjl]
            simpa using h1
          · rename_i hj
            rw [List.getElem?_eq_none (by rw [hfl2, hvl2]; omega)]
        have hnewsz : new.size = cap * i.size := by
          simp only [hnewdef, List.size_toArray, List.length_append, List.length_take, List.length_drop, Array.length_toList, hcs, hfl', hvl']
          omega
        have hself : (E.w.setRow g new).heap[g]? = some (.cells new ty (0, 0)) := setRow_heap E.w g cur new ty (0, 0) hh
        obtain ⟨hI', hx'⟩ := hI.setLab [d] (w' := E.w.setRow g new) hown hgS (setRow_size _ _ _) rfl rfl rfl fun b hb => setRow_other E.w g b new hb
        refine wpof (by rw [ex, ey]; exact hrun) (hK _ _ (hI'.put hdN ?_))
        have hcl := hx'.closed
        rw [RE.unown_closed] at hcl
        have hfa2 : flat (vs2 ++ vs') = flat vs2 ++ flat vs' := by simp [flat]
        simp only [Rep]
        refine ⟨_, cap, vs2 ++ vs', by rw [List.length_append], by rw [List.length_append]; exact hroom, (hr2.mono hcl).append (hr'.mono hcl), fun u hu => (List.mem_append.1 hu).elim (he2 u) (he' u), fun u hu => ?_,
          .inr ⟨g, new, ty, rfl, fun j u hj => ⟨trivial, ?_⟩, hself, hm, hnewsz, .inr (by simp), hgS, fun u hu => ?_⟩⟩
        · rw [hfa2] at hu
          exact (List.mem_append.1 hu).elim (ho2 u) (ho' u)
        · show (E.w.setRow g new).cell? _ = some u
          simp only [World.cell?, hself, Nat.zero_add]
          rw [hfa2] at hj
          have hjl := (List.getElem?_eq_some_iff.1 hj).1
          rw [hnewdef]
          simp only [List.getElem?_toArray]
          rw [htake, List.getElem?_append_left hjl]
          exact hj
        · rw [hnewdef] at hu
          rcases List.mem_append.1 hu with hu | hu
          · rcases List.mem_append.1 hu with hu | hu
            · exact hone u (List.mem_of_mem_take hu)
            · exact ho' u hu
          · exact hone u (List.mem_of_mem_drop hu)
    · rw [ex] at hfo2
      have hrun := run_app_grow (P := P) (ty := o.type) ht hi hz (w := E.w) hfo2 hf2 (by omega) (by omega) (growslice_fits (by omega) hmul)
      have hcapge := grownCap_ge E.w (rows.length + rows'.length) cap e
      have hcaple := grownCap_le_maxLen E.w (rows.length + rows'.length) cap e (by simp only [maxLen]; omega)
      have hU := hI.drew.unownT τ
      obtain ⟨hI', hx'⟩ := hU.newLab [d] (.cells (flat vs ++ flat vs' ++ (Builtin.zeroCells z.cells (grownCap E.w (rows.length + rows'.length) cap e - (rows.length + rows'.length))).toList).toArray e)
      refine wpof (by rw [ex, ey]; exact hrun) (hK _ _ (hI'.put hdN ?_))
      have hcl := hx'.closed
      rw [RE.unown_closed] at hcl
      have hdr := (Ext.drew E).closed
      simp only [Rep]
      refine ⟨_, grownCap E.w (rows.length + rows'.length) cap e, vs ++ vs', by rw [List.length_append], by rw [List.length_append]; omega, ((hr.mono hdr).mono hcl).append ((hr'.mono hdr).mono hcl), fun u hu => (List.mem_append.1 hu).elim (he u) (he' u), fun u hu => ?_,
        .inr ⟨E.w.heap.size, _, e, rfl, fun j u hj => ⟨trivial, ?_⟩, heap_alloc_new _ _, hcaple, ?_, .inr ⟨rfl, by simp⟩, fun o hs => ?_, fun u hu => ?_⟩⟩
      · rw [hfa] at hu
        exact (List.mem_append.1 hu).elim (ho1 u) (ho' u)
      · rw [hfa] at hj
        have hjl := (List.getElem?_eq_some_iff.1 hj).1
        show (World.alloc E.w.drew _).cell? ⟨E.w.drew.heap.size, 0 + j, none⟩ = some u
        simp only [World.cell?]
        rw [heap_alloc_new E.w.drew]
        simp only [Nat.zero_add]
        rw [if_neg (by simp), List.getElem?_toArray]
        rw [List.getElem?_append_left hjl]
        exact hj
      · simp only [List.size_toArray, List.length_append]
        rw [hfl, hfl', size_zeroCells' hzs, hvl, hvl', ← Nat.add_mul, ← Nat.add_mul]
        congr 1
        omega
      · have := hI.Slt _ o hs
        exact absurd this (Nat.lt_irrefl _)
      · rcases List.mem_append.1 hu with hu | hu
        · exact (List.mem_append.1 hu).elim (ho1 u) (ho' u)
        · exact zeroCells_one hz1' (by omega) _ u hu
  · -- onto nil
    rename_i e1 r1 hxv
    rw [hxv] at hx
    simp only [Rep] at hx
    obtain ⟨A, cap, vs, ex, hcap, hr, he, ho1, hA, hcap0⟩ := hx
    subst hA hcap0
    split at h
    case isFalse => cases h
    rename_i hb
    injection h with h
    subst h
    have hr1 : r1 = [] := List.eq_nil_of_length_eq_zero (by omega)
    subst hr1
    by_cases hm0 : rows' = []
    · subst hm0
      refine wpof (by rw [ex, ey]; exact run_app_none ht hi) (hK _ E (hI.put hdN ?_))
      simp only [Rep]
      simp at hvl'
      subst hvl'
      exact ⟨none, 0, [], rfl, Nat.le_refl _, by simp [RepL], by simp, by simp [flat], .inl ⟨rfl, rfl⟩⟩
    · have hpos : 0 < rows'.length := by rcases rows' with _ | ⟨q, qs⟩; exact absurd rfl hm0; simp
      have hmul : rows'.length * i.bytes ≤ 140737488355328 := by
        have := Nat.mul_le_mul hb.1 hb.2
        omega
      have hrun := run_app_grow (P := P) (ty := o.type) (n := 0) (cap := 0) (A := none) (olds := []) ht hi hz (w := E.w) (by simp [Builtin.firstCells, Sem.run]) hf2 (by omega) (by omega) (growslice_fits (by omega) (by simpa using hmul))
      have hcapge := grownCap_ge E.w (0 + rows'.length) 0 e
      have hcaple := grownCap_le_maxLen E.w (0 + rows'.length) 0 e (by simp only [maxLen]; omega)
      obtain ⟨E', hw', hI', _, hrep⟩ := hI.drew.newOwn [d] (ty := e) (rows := rows') (vs := vs') (e := i.size) (cap := grownCap E.w (0 + rows'.length) 0 e)
        (rest := (Builtin.zeroCells z.cells (grownCap E.w (0 + rows'.length) 0 e - (0 + rows'.length))).toList) (hr'.mono (Ext.drew E).closed) he' ho' (by omega) hcaple (by
          rw [List.length_append, hfl', size_zeroCells' hzs, hvl', ← Nat.add_mul]; congr 1; omega)
      simp only [Nat.zero_add] at hrun hrep hw'
      refine wpof (by rw [ex, ey]; simpa using hrun) ?_
      have := hK _ E' (hI'.put hdN hrep)
      rw [hw'] at this
      simpa using this
  · -- onto what is owned
    rename_i τ e1 rows hxv
    rw [hxv] at hx
    split at h
    case isFalse => cases h
    rename_i he1
    subst he1
    split at h
    case isFalse => cases h
    rename_i hb
    injection h with h
    subst h
    obtain ⟨A, cap, vs, ex, hr, he, ho1, _, hfo2⟩ := run_first (P := P) rfl hx
    have hvl := hr.length
    have hfl := flat_length he
    have hmul : (rows.length + rows'.length) * i.bytes ≤ 140737488355328 := by
      have := Nat.mul_le_mul hb.1 hb.2
      omega
    by_cases hroom : rows.length + rows'.length ≤ cap
    · simp only [Rep] at hx
      obtain ⟨A2, cap2, vs2, ex2, hcap, hr2, he2, ho2, htk⟩ := hx
      have hvl2 := hr2.length
      rw [ex] at ex2
      injection ex2 with h1 _ h2
      subst h1 h2
      rcases htk with ⟨hA, hc0⟩ | ⟨g, cur, ty, hA, hat', hh, hm, hcs, hown, hS⟩
      · subst hA hc0
        have h1 : rows = [] := List.eq_nil_of_length_eq_zero (by omega)
        have h2 : rows' = [] := List.eq_nil_of_length_eq_zero (by omega)
        subst h1 h2
        refine wpof (by rw [ex, ey]; exact run_app_none ht hi) (hK _ (E.unown τ) ((hI.unownT τ).put hdN ?_))
        simp only [Rep]
        exact ⟨none, 0, [], rfl, Nat.le_refl _, by simp [RepL], by simp, by simp [flat], .inl ⟨rfl, rfl⟩⟩
      · subst hA
        have hrun := run_app_room (P := P) (ty := o.type) ht hi hh hf1 (n := rows.length) (cap := cap) (by rw [hfl', hvl']) ho' hroom (by rw [hfl', hvl', hcs, ← Nat.add_mul]; exact Nat.mul_le_mul_right _ hroom)
        obtain ⟨E', hw', hI', hrep⟩ := hI.grow (τ' := [d]) hh hown hS hat' hr2 hr' he2 he' ho2 ho' hroom hm hcs
        refine wpof (by rw [ex, ey]; exact hrun) ?_
        have := hK _ E' (hI'.put hdN hrep)
        rw [hw'] at this
        exact this
    · rw [ex] at hfo2
      have hrun := run_app_grow (P := P) (ty := o.type) ht hi hz (w := E.w) hfo2 hf2 (by omega) (by omega) (growslice_fits (by omega) hmul)
      have hcapge := grownCap_ge E.w (rows.length + rows'.length) cap e
      have hcaple := grownCap_le_maxLen E.w (rows.length + rows'.length) cap e (by simp only [maxLen]; omega)
      have hbase : RepL ({ E with w := E.w.drew } : RE).closed (rows ++ rows') (vs ++ vs') := (hr.mono (Ext.drew E).closed).append (hr'.mono (Ext.drew E).closed)
      have hfa : flat (vs ++ vs') = flat vs ++ flat vs' := by simp [flat]
      have hunown : RepL (({ E with w := E.w.drew } : RE).unown τ).closed (rows ++ rows') (vs ++ vs') := hbase
      obtain ⟨E', hw', hI', _, hrep⟩ := (hI.drew.unownT τ).newOwn [d] (ty := e) (rows := rows ++ rows') (vs := vs ++ vs') (e := i.size) (cap := grownCap E.w (rows.length + rows'.length) cap e)
        (rest := (Builtin.zeroCells z.cells (grownCap E.w (rows.length + rows'.length) cap e - (rows.length + rows'.length))).toList) hunown
        (fun u hu => (List.mem_append.1 hu).elim (he u) (he' u)) (fun u hu => by rw [hfa] at hu; exact (List.mem_append.1 hu).elim (ho1 u) (ho' u)) (by rw [List.length_append]; omega) hcaple (by
          rw [hfa, List.length_append, List.length_append, hfl, hfl', size_zeroCells' hzs, hvl, hvl', ← Nat.add_mul, ← Nat.add_mul]; congr 1; omega)
      refine wpof (by rw [ex, ey]; exact hrun) ?_
      have := hK _ E' (hI'.put hdN hrep)
      rw [hw', hfa, List.length_append] at this
      exact this
  · cases h

/-- A slice literal: its parts as rows. -/
def rowsOf (esz : Nat) : List AV → Option (List AV)
  | [] => some []
  | x :: xs => match closeV x with
    | some r => if r.row = true then if oneL (cellsOf r) = true then if (cellsOf r).length = esz then match rowsOf esz xs with
        | some rs => some (r :: rs)
        | none => none
      else none else none else none
    | none => none

def stepBslice (esz d : Nat) (xs : List AV) (env : Env) : Option Env :=
  match rowsOf esz xs with
  | some rows => some (env.put d (.sl (.own [d]) esz rows))
  | none => none

mutual
theorem plain_rep : ∀ {x : AV} {E : RE} {v : Value}, plainV x = true → Rep E x v → Rep E.closed (unownV x) v
  | .lit u, E, v, _, h => by simpa only [unownV, Rep] using h
  | .gl i, E, v, _, h => by simp only [unownV, Rep] at h ⊢; exact h
  | .gp g, E, v, _, h => by simpa only [unownV, Rep] using h
  | .rp cs, E, v, _, h => by simp only [unownV, Rep] at h ⊢; exact h
  | .mp k vs, E, v, _, h => by simp only [unownV, Rep] at h ⊢; exact h
  | .dead, E, v, _, h => by simp only [unownV, Rep]
  | .sl .none e rows, E, v, _, h => by simp only [unownV, Rep] at h ⊢; exact h
  | .sl .nil e rows, E, v, _, h => by simp only [unownV, Rep] at h ⊢; exact h
  | .sl .bor e rows, E, v, hp, h => by simp [plainV] at hp
  | .sl (.own τ) e rows, E, v, _, h => by
    simp only [unownV, Rep] at h ⊢
    obtain ⟨A, cap, vs, rfl, hcap, hr, he, h1, ht⟩ := h
    refine ⟨A, cap, vs, rfl, hcap, hr, he, h1, fun hne => ?_⟩
    rcases ht with ⟨_, h0⟩ | ⟨g, cur, ty, ha, hat, _⟩
    · exact absurd (List.eq_nil_of_length_eq_zero (by omega)) hne
    · exact ⟨g, 0, ha, hat⟩
  | .sl (.fr τ) e rows, E, v, hp, h => by simp [plainV] at hp
  | .sl .gone e rows, E, v, hp, h => by simp [plainV] at hp
  | .mf t al, E, v, hp, h => by simp [plainV] at hp
  | .agg cs, E, v, hp, h => by
    simp only [plainV] at hp
    simp only [unownV, Rep] at h ⊢
    obtain ⟨vs, rfl, h⟩ := h
    exact ⟨vs, rfl, plainL_rep hp h⟩
  | .tup cs, E, v, hp, h => by
    simp only [plainV] at hp
    simp only [unownV, Rep] at h ⊢
    obtain ⟨vs, rfl, h⟩ := h
    exact ⟨vs, rfl, plainL_rep hp h⟩
  | .ifc t x, E, v, hp, h => by
    simp only [plainV] at hp
    simp only [unownV, Rep] at h ⊢
    obtain ⟨u, rfl, h⟩ := h
    exact ⟨u, rfl, plain_rep hp h⟩
  | .clo f a b, E, v, hp, h => by
    simp only [plainV, Bool.and_eq_true] at hp
    simp only [unownV, Rep] at h ⊢
    obtain ⟨fs, cs, rfl, h1, h2⟩ := h
    exact ⟨fs, cs, rfl, plainL_rep hp.1 h1, plainL_rep hp.2 h2⟩
  | .bp cs, E, v, hp, h => by simp [plainV] at hp
  | .lp c o, E, v, hp, h => by simp [plainV] at hp
  | .ml c o n k g e, E, v, hp, h => by simp [plainV] at hp
  | .mu c k vs, E, v, hp, h => by simp [plainV] at hp
theorem plainL_rep : ∀ {xs : List AV} {E : RE} {vs : List Value}, plainL xs = true → RepL E xs vs → RepL E.closed (unownL xs) vs
  | [], E, vs, _, h => by simpa only [unownL, RepL] using h
  | x :: xs, E, vs, hp, h => by
    simp only [plainL, Bool.and_eq_true] at hp
    simp only [unownL, RepL] at h ⊢
    obtain ⟨v, ws, rfl, h1, h2⟩ := h
    exact ⟨v, ws, rfl, plain_rep hp.1 h1, plainL_rep hp.2 h2⟩
end

theorem close1_rep {x r : AV} {v : Value} (hI : Inv R N env a E) (h : closeV.closeV1 x = some r) (hr : Rep E x v) : Rep E.closed r v := by
  cases x with
  | lit u => simp only [closeV.closeV1] at h; injection h with h; subst h; simpa only [Rep] using hr
  | gl i => simp only [closeV.closeV1] at h; injection h with h; subst h; simp only [Rep] at hr ⊢; exact hr
  | rp cs => simp only [closeV.closeV1] at h; injection h with h; subst h; simp only [Rep] at hr ⊢; exact hr
  | mp k vs => simp only [closeV.closeV1] at h; injection h with h; subst h; simp only [Rep] at hr ⊢; exact hr
  | sl t e rows =>
    have main : ∀ t', t' = .none → t ≠ .bor → t ≠ .nil → (∀ τ, t ≠ .fr τ) → t ≠ .gone → Rep E.closed (.sl t' e rows) v := by
      rintro t' rfl h1 h2 h3 h4
      simp only [Rep] at hr ⊢
      obtain ⟨A, cap, vs, rfl, hcap, hrr, he, ho, ht⟩ := hr
      refine ⟨A, cap, vs, rfl, hcap, hrr, he, ho, fun hne => ?_⟩
      cases t with
      | none => exact ht hne
      | bor => exact absurd rfl h1
      | nil => exact absurd rfl h2
      | own τ =>
        rcases ht with ⟨_, h0⟩ | ⟨g, cur, ty, hA, hat, _⟩
        · exact absurd (List.eq_nil_of_length_eq_zero (by omega)) hne
        · exact ⟨g, 0, hA, hat⟩
      | fr τ => exact absurd rfl (h3 τ)
      | gone => exact absurd rfl h4
    cases t with
    | bor => simp [closeV.closeV1] at h
    | fr τ => simp [closeV.closeV1] at h
    | gone => simp [closeV.closeV1] at h
    | none => simp only [closeV.closeV1] at h; injection h with h; subst h; exact main _ rfl (by simp) (by simp) (by simp) (by simp)
    | own τ => simp only [closeV.closeV1] at h; injection h with h; subst h; exact main _ rfl (by simp) (by simp) (by simp) (by simp)
    | nil =>
      cases rows with
      | nil => simp only [closeV.closeV1] at h; injection h with h; subst h; simp only [Rep] at hr ⊢; exact hr
      | cons q qs => simp [closeV.closeV1] at h
  | ifc t y =>
    cases y with
    | lit u => simp only [closeV.closeV1] at h; injection h with h; subst h; simpa only [Rep] using hr
    | rp cs => simp only [closeV.closeV1] at h; injection h with h; subst h; simp only [Rep] at hr ⊢; exact hr
    | _ => simp [closeV.closeV1] at h
  | clo f p q =>
    simp only [closeV.closeV1] at h
    split at h
    · rename_i hp
      injection h with h
      subst h
      exact plain_rep (x := .clo f p q) (by simpa only [plainV] using hp) hr
    · cases h
  | _ => simp [closeV.closeV1] at h

theorem close1L_rep (hI : Inv R N env a E) : ∀ {xs rs : List AV} {vs : List Value}, xs.mapM closeV.closeV1 = some rs → RepL E xs vs → RepL E.closed rs vs
  | [], rs, vs, h, hr => by
    simp at h
    subst h
    simpa only [RepL] using hr
  | x :: xs, rs, vs, h, hr => by
    rw [List.mapM_cons] at h
    simp only [RepL] at hr
    obtain ⟨v, us, rfl, h1, h2⟩ := hr
    cases hx : closeV.closeV1 x with
    | none => simp [hx] at h
    | some r =>
      cases hxs : xs.mapM closeV.closeV1 with
      | none => simp [hx, hxs] at h
      | some rs' =>
        simp [hx, hxs] at h
        subst h
        simp only [RepL]
        exact ⟨v, us, rfl, close1_rep hI hx h1, close1L_rep hI hxs h2⟩

theorem close_rep {x r : AV} {v : Value} (hI : Inv R N env a E) (h : closeV x = some r) (hr : Rep E x v) : Rep E.closed r v := by
  cases x with
  | agg cs =>
    simp only [closeV] at h
    split at h
    · rename_i l hl
      injection h with h
      subst h
      simp only [Rep] at hr ⊢
      obtain ⟨vs, rfl, hr⟩ := hr
      exact ⟨vs, rfl, close1L_rep hI hl hr⟩
    · cases h
  | ifc t y =>
    simp only [closeV] at h
    split at h
    · rename_i u hu
      injection h with h
      subst h
      simp only [Rep] at hr ⊢
      obtain ⟨w, rfl, hr⟩ := hr
      exact ⟨w, rfl, close1_rep hI hu hr⟩
    · cases h
  | sl t e rows =>
    refine close1_rep hI (x := .sl t e rows) ?_ hr
    rw [← h]
    cases t <;> cases rows <;> rfl
  | lit u => exact close1_rep hI (x := .lit u) h hr
  | gl i => exact close1_rep hI (x := .gl i) h hr
  | rp cs => exact close1_rep hI (x := .rp cs) h hr
  | mp k vs => exact close1_rep hI (x := .mp k vs) h hr
  | clo f p q => exact close1_rep hI (x := .clo f p q) h hr
  | dead => simp only [closeV] at h; injection h with h; subst h; simp only [Rep]
  | _ => simp [closeV] at h

theorem rowsOf_rep (hI : Inv R N env a E) {esz : Nat} : ∀ {xs rows : List AV} {vs : List Value}, rowsOf esz xs = some rows → RepL E xs vs →
    RepL E.closed rows vs ∧ (∀ u ∈ vs, u.cells.size = esz) ∧ (∀ u ∈ flat vs, u.oneCell' = true)
  | [], rows, vs, h, hr => by
    simp only [rowsOf] at h
    injection h with h
    subst h
    simp only [RepL] at hr
    subst hr
    simp [RepL, flat]
  | x :: xs, rows, vs, h, hr => by
    simp only [rowsOf] at h
    split at h
    case h_2 => cases h
    rename_i r hc
    split at h
    case isFalse => cases h
    rename_i hrow
    split at h
    case isFalse => cases h
    rename_i hone
    split at h
    case isFalse => cases h
    rename_i hlen
    split at h
    case h_2 => cases h
    rename_i rs hrs
    injection h with h
    subst h
    simp only [RepL] at hr
    obtain ⟨v, us, rfl, h1, h2⟩ := hr
    obtain ⟨k1, k2, k3⟩ := rowsOf_rep hI hrs h2
    have hv := close_rep hI hc h1
    have hvc := rep_cells hv (row_or hrow)
    have hl := hvc.length
    rw [Array.length_toList] at hl
    refine ⟨by simp only [RepL]; exact ⟨v, us, rfl, hv, k1⟩, fun u hu => ?_, fun u hu => ?_⟩
    · rcases List.mem_cons.1 hu with rfl | hu
      · omega
      · exact k2 u hu
    · have : flat (v :: us) = v.cells.toList ++ flat us := by simp [flat]
      rw [this] at hu
      rcases List.mem_append.1 hu with hu | hu
      · exact repL_one hvc (oneL_spec hone) u hu
      · exact k3 u hu

end
end Go.Proofs.Ytmjmfollimaleaa.VL
