/- The value logic, part 11: one operation's step. -/
import Derived.Test.YtmjmfollimaleaaVL10
import Derived.Laws.MakeOwn
set_option linter.unusedVariables false
set_option linter.unusedSimpArgs false
namespace Go.Proofs.Ytmjmfollimaleaa.VL
open Go.RowKit

section
variable {P : Program} {R : RE} {N : Nat} {env : Env} {a : Act} {E : RE}

theorem fill_rows {size : Nat} : ∀ (vs : List Value) (k : Nat) (cells : Array Value), (∀ u ∈ vs, u.cells.size = size) → (k + vs.length) * size ≤ cells.size →
    ∃ out : Array Value, Instr.fill (fun i => some (i * size, size)) cells ((List.range' k vs.length).zip vs) = some out ∧ out.toList = cells.toList.take (k * size) ++ flat vs ++ cells.toList.drop ((k + vs.length) * size)
  | [], k, cells, _, _ => ⟨cells, by simp [Instr.fill], by simp [flat]⟩
  | v :: vs, k, cells, h, hl => by
    have hv := h v (by simp)
    simp only [List.length_cons] at hl
    have hmul : (k + (vs.length + 1)) * size = k * size + size + vs.length * size := by rw [Nat.add_mul, Nat.add_mul]; omega
    have h2 : (k + 1 + vs.length) * size = k * size + size + vs.length * size := by rw [Nat.add_mul, Nat.add_mul]; omega
    have h3 : (k + 1) * size = k * size + size := by rw [Nat.add_mul]; omega
    rw [hmul] at hl
    have hz := setZip_eq cells (k * size) v.cells.toList 0 cells (by simp [hv]; omega)
    simp only [Nat.add_zero, Array.length_toList, hv] at hz
    have hsz : (v.cells.toList.zipIdx.foldl (fun cs (x : Value × Nat) => cs.setIfInBounds (k * size + x.2) x.1) cells).size = cells.size := by
      rw [← Array.length_toList, hz]
      simp [hv]
      omega
    obtain ⟨out, h1, hout⟩ := fill_rows vs (k + 1) (v.cells.toList.zipIdx.foldl (fun cs (x : Value × Nat) => cs.setIfInBounds (k * size + x.2) x.1) cells) (fun u hu => h u (by simp [hu])) (by rw [h2, hsz]; omega)
    refine ⟨out, ?_, ?_⟩
    · simp only [List.length_cons, List.range'_succ, List.zip_cons_cons, Instr.fill]
      rw [if_neg (by simp [hv]; omega), ← Array.foldl_toList, Array.toList_zipIdx]
      exact h1
    · rw [hout, hz, h2, h3]
      simp only [List.length_cons, hmul]
      have hfl : flat (v :: vs) = v.cells.toList ++ flat vs := by simp [flat]
      rw [hfl]
      have e1 : (cells.toList.take (k * size) ++ v.cells.toList).length = k * size + size := by simp [hv]; omega
      rw [← e1, List.take_left', List.drop_append]
      · simp [e1]
        try rw [List.drop_of_length_le (by simp [hv])]
        try simp
        try (congr 1; omega)
      all_goals rfl

theorem zip_parts {α β : Type} {l : List (α × β)} {ks : List α} (h : l.map (·.1) = ks) : l = ks.zip (l.map (·.2)) := by
  subst h
  induction l with
  | nil => rfl
  | cons x l ih => simp [← ih]

theorem wp_bslice (hI : Inv R N env a E) {o : Oper} {t e : TypeId} {i : TypeInfo} {z : Value} {n d : Nat} {parts : Array (Nat × Operand)} (ho : o.op = .buildSlice t n parts) (hd : o.dst = some d) (hdN : d < N)
    (ht : P.underlying t = some (.slice e)) (hi : P.info? e = some i) (hz : i.zero = some z) (hzs : z.cells.size = i.size) (hidx : parts.toList.map (·.1) = List.range n) (hlim : n * i.size ≤ 16777216) (hsz : 0 < i.size)
    {env' : Env} (h : stepBslice i.size d ((parts.toList.map (·.2)).map env.ev) env = some env')
    {K : Act → World → Prop} {Q : Exit → Act → World → Prop} (hK : ∀ v E', Inv R N env' (a.put (some d) v) E' → K (a.put (some d) v) E'.w) : o.wp P a E.w K Q := by
  unfold stepBslice at h
  split at h
  case h_2 => cases h
  rename_i rows hrows
  injection h with h
  subst h
  obtain ⟨hr, he, ho1⟩ := rowsOf_rep hI hrows (hI.evs (parts.toList.map (·.2)))
  have hvl := hr.length
  have hfl := flat_length he
  generalize hvs : (parts.toList.map (·.2)).map a.eval = vs at hr he ho1 hvl hfl
  have hn : vs.length = n := by
    have := congrArg List.length hidx
    rw [← hvs]
    simpa using this
  obtain ⟨out, hfill, hout⟩ := fill_rows (size := i.size) vs 0 ((Array.range (n * i.size)).map (z.cells[· % z.cells.size]!)) he (by simp [hn])
  have hparts : (parts.map fun (i, x) => (i, a.eval x)).toList = (List.range' 0 vs.length).zip vs := by
    have h1 := zip_parts (l := (parts.toList.map fun p => (p.1, a.eval p.2))) (ks := List.range n) (by rw [← hidx]; simp)
    simp only [Array.toList_map]
    rw [h1, hn, List.range_eq_range', ← hvs]
    congr 1
    simp
  have hout' : out = (flat vs).toArray := by
    apply Array.ext'
    rw [hout]
    simp only [Nat.zero_mul, List.take_zero, List.nil_append, Nat.zero_add, hn]
    rw [List.drop_of_length_le (by simp)]
    simp
  obtain ⟨E', hw', hI', _, hrep⟩ := hI.newOwn [d] (ty := e) (rows := rows) (vs := vs) (e := i.size) (cap := rows.length) (rest := []) hr he ho1 (Nat.le_refl _) (by have : rows.length ≤ rows.length * i.size := Nat.le_mul_of_pos_right _ hsz; rw [← hvl, hn] at this ⊢; simp only [maxLen]; omega) (by simp [hfl, hvl])
  unfold Oper.wp
  have hex : (execOp a.eval o).run P E.w = .ok (.value (.slice (some ⟨E.w.heap.size, 0, none⟩) n n)) (E.w.alloc (.cells (flat vs).toArray e)) := by
    have hzero : (zeroValue e).run P E.w = .ok z E.w := by simp [zeroValue, typeInfo, program, Sem.run, hi, hz, Bind.bind, Sem.bind, Pure.pure]
    have hfill' : Instr.fill (fun i_1 => some (i_1 * i.size, i.size)) ((Array.range (n * i.size)).map fun x => z.cells[x % z.cells.size]!) (parts.map fun (i, x) => (i, a.eval x)).toList = some out := by rw [hparts]; exact hfill
    simp only [execOp, ho, Instr.buildSlice, Sem.run_bind, run_underlying_eq ht, Result.andThen_ok, run_sizeOf hi]
    rw [if_neg (by omega)]
    by_cases h0 : n * i.size = 0
    · have hn0 : n = 0 := by rcases Nat.mul_eq_zero.1 h0 with h | h <;> omega
      have hvs0 : vs = [] := List.eq_nil_of_length_eq_zero (by omega)
      subst hn0 hvs0
      have hp0 : parts.toList = [] := by
        have := congrArg List.length hidx
        simpa using this
      have hp1 : parts = #[] := by rw [← Array.toArray_toList (xs := parts), hp0]
      subst hp1
      simp [Sem.run_bind, Sem.run, Instr.fill, newRow, newObj, flat, World.alloc_eq, Array.range_zero']
    · rw [if_neg h0]
      simp only [Sem.run_bind, hzero, Result.andThen_ok, Sem.run_pure, hfill']
      simp [newRow, newObj, Sem.run_bind, Sem.run, hout', World.alloc_eq]
  rw [hex, Oper.upon_value, hd]
  have := hK _ E' (hI'.put hdN hrep)
  rw [hw'] at this
  simp only [List.append_nil] at this
  rw [← hvl, hn] at this
  exact this

theorem oneL_cells {x : AV} {v : Value} {E : RE} (h : Rep E x v) (hrow : x.row = true) (h1 : oneL (cellsOf x) = true) : ∀ u ∈ v.cells.toList, u.oneCell' = true :=
  repL_one (rep_cells h (row_or hrow)) (oneL_spec h1)

/-- A variable whose address is taken. -/
def stepAlloc (d : Nat) (z : List AV) (env : Env) : Option Env :=
  if oneL z = true then some (((env.fresh d).putc d z).put d (.lp d 0)) else none

def stepBox (d : Nat) (x : Operand) (env : Env) : Option Env :=
  if ((env.fresh d).ev x).row = true then if oneL (cellsOf ((env.fresh d).ev x)) = true then some (((env.fresh d).putc d (cellsOf ((env.fresh d).ev x))).put d (.lp d 0)) else none else none

theorem rep_new (E : RE) (d : Nat) (w : World) (b : Nat) : Rep { E with w := w, loc := upd E.loc d (some b) } (.lp d 0) (.pointer (some ⟨b, 0, none⟩)) := by
  simp only [Rep]
  exact ⟨b, by simp [upd], rfl⟩

theorem wp_alloc (hI : Inv R N env a E) {o : Oper} {t : TypeId} {z : Value} {d : Nat} (ho : o.op = .alloc t) (hd : o.dst = some d) (hdN : d < N) (hz : (P.info? t).bind (·.zero) = some z)
    {env' : Env} (h : stepAlloc d (z.cells.toList.map ofVal1) env = some env')
    {K : Act → World → Prop} {Q : Exit → Act → World → Prop} (hK : ∀ v E', Inv R N env' (a.put (some d) v) E' → K (a.put (some d) v) E'.w) : o.wp P a E.w K Q := by
  unfold stepAlloc at h
  split at h
  case isFalse => cases h
  rename_i hone
  injection h with h
  subst h
  obtain ⟨E0, hw0, hI0, hl0, hc0⟩ := hI.fresh d
  have hr : RepL E0 (z.cells.toList.map ofVal1) z.cells.toList := repL_ofVal1 E0 _
  obtain ⟨hI1, _⟩ := hI0.newLoc d hdN hl0 (ty := t) hr (repL_one hr (oneL_spec hone))
  obtain ⟨inf, hinf, hz'⟩ := Option.bind_eq_some_iff.1 hz
  unfold Oper.wp
  have hex : (execOp a.eval o).run P E.w = .ok (.value (.pointer (some ⟨E.w.heap.size, 0, none⟩))) (E.w.alloc (.cells z.cells t)) := by
    have hzero : (zeroValue t).run P E.w = .ok z E.w := by simp [zeroValue, typeInfo, program, Sem.run, hinf, hz', Bind.bind, Sem.bind, Pure.pure]
    simp [execOp, ho, Instr.alloc, Sem.run_bind, hzero, newVar, newRow, newObj, Sem.run, World.alloc_eq]
  rw [hex, Oper.upon_value, hd]
  have := hK _ _ (hI1.put hdN (rep_new E0 d _ _))
  simp only [hw0] at this
  exact this

/-- A made slice: a cell block of the call's own. -/
def stepMks (agg : Bool) (esz bytes d : Nat) (z : List AV) (l c : AV) (env : Env) : Option Env :=
  match intOfA l, intOfA c with
  | some n, some n' => if n = n' ∧ 0 ≤ n ∧ n ≤ 4294967296 ∧ bytes ≤ 32768 then if oneL z = true then some (((env.fresh d).putc d (List.replicate n.toNat z).flatten).put d (.ml d 0 n.toNat n.toNat agg esz)) else none else none
  | _, _ => none

theorem made_list (z : Array Value) : ∀ n : Nat, (madeCells z (n * z.size)).toList = (List.replicate n z.toList).flatten
  | 0 => by simp [madeCells]
  | n + 1 => by
    have ih := made_list z n
    rw [List.replicate_succ', List.flatten_append, ← ih]
    simp only [madeCells, Array.toList_map, Array.toList_range, Nat.succ_mul, List.range_add, List.map_append, List.map_map, List.flatten_cons, List.flatten_nil, List.append_nil]
    congr 1
    apply List.ext_getElem
    · simp
    · intro i h1 h2
      have hi : i < z.size := by simpa using h2
      simp [Nat.mod_eq_of_lt hi, hi]

theorem oneL_flatten {z : List AV} (h : oneL z = true) (n : Nat) : oneL (List.replicate n z).flatten = true := by
  simp only [oneL, List.all_eq_true] at h ⊢
  intro x hx
  obtain ⟨l, hl, hxl⟩ := List.mem_flatten.1 hx
  rw [List.eq_of_mem_replicate hl] at hxl
  exact h x hxl

theorem repL_flatten {E : RE} {z : List AV} {vs : List Value} (h : RepL E z vs) : ∀ n : Nat, RepL E (List.replicate n z).flatten (List.replicate n vs).flatten
  | 0 => by simp [RepL]
  | n + 1 => by
    simp only [List.replicate_succ, List.flatten_cons]
    exact h.append (repL_flatten h n)

theorem wp_mks (hI : Inv R N env a E) {o : Oper} {t e : TypeId} {i : TypeInfo} {z : Value} {l c : Operand} {b : Bool} {d : Nat} (ho : o.op = .makeSlice t l c) (hd : o.dst = some d) (hdN : d < N)
    (ht : P.underlying t = some (.slice e)) (hi : P.info? e = some i) (hz : i.zero = some z) (hzs : z.cells.size = i.size)
    {env' : Env} (h : stepMks b i.size i.bytes d (z.cells.toList.map ofVal1) (env.ev l) (env.ev c) env = some env')
    {K : Act → World → Prop} {Q : Exit → Act → World → Prop} (hK : ∀ v E', Inv R N env' (a.put (some d) v) E' → K (a.put (some d) v) E'.w) : o.wp P a E.w K Q := by
  unfold stepMks at h
  have hl := hI.ev l
  have hc := hI.ev c
  split at h
  case h_2 => cases h
  rename_i n n' hn hn'
  have evi : ∀ {x : AV} {m : Int} {v : Value}, intOfA x = some m → Rep E x v → ∃ k, v = .int k m := by
    intro x m v hx hr
    unfold intOfA at hx
    split at hx
    · injection hx with hx
      subst hx
      simp only [Rep] at hr
      exact ⟨_, hr⟩
    · cases hx
  obtain ⟨kl, el⟩ := evi hn hl
  obtain ⟨kc, ec⟩ := evi hn' hc
  split at h
  case isFalse => cases h
  rename_i hb
  obtain ⟨rfl, h0, hm, hby⟩ := hb
  split at h
  case isFalse => cases h
  rename_i hone
  injection h with h
  subst h
  obtain ⟨E0, hw0, hI0, hl0, hc0⟩ := hI.fresh d
  have hr0 : RepL E0 (z.cells.toList.map ofVal1) z.cells.toList := repL_ofVal1 E0 _
  have hr := repL_flatten hr0 n.toNat
  have hcells : (madeCells z.cells (n.toNat * i.size)).toList = (List.replicate n.toNat z.cells.toList).flatten := by rw [← hzs]; exact made_list z.cells n.toNat
  have hmul : (i.bytes : Int) * n ≤ 140737488355328 := by
    have h1 : (i.bytes : Int) * n ≤ (i.bytes : Int) * 4294967296 := Int.mul_le_mul_of_nonneg_left hm (by omega)
    omega
  have hrun := run_make (P := P) E.w t e i z ht hi hz kl kc n n h0 (Int.le_refl _) (by omega) (by omega)
  obtain ⟨hI1, _⟩ := hI0.newLoc d hdN hl0 (ty := e) (vals := madeCells z.cells (n.toNat * i.size)) (cs := (List.replicate n.toNat (z.cells.toList.map ofVal1)).flatten) (by rw [hcells]; exact hr) (by rw [hcells]; exact repL_one hr (oneL_spec (oneL_flatten hone _)))
  unfold Oper.wp
  have hex : (execOp a.eval o).run P E.w = .ok (.value (.slice (some ⟨E.w.heap.size, 0, none⟩) n.toNat n.toNat)) (E.w.alloc (.cells (madeCells z.cells (n.toNat * i.size)) e)) := by
    simp [execOp, ho, el, ec, Sem.run_bind, hrun, Sem.run]
  rw [hex, Oper.upon_value, hd]
  have := hK (.slice (some ⟨E0.w.heap.size, 0, none⟩) n.toNat n.toNat) _ (hI1.put hdN (x := .ml d 0 n.toNat n.toNat b i.size) (by
    simp only [Rep]
    exact ⟨E0.w.heap.size, by simp [upd], rfl⟩))
  simp only [hw0] at this
  exact this

/-- A made slice without elements: the call owns its room. -/
def stepMko (esz bytes d : Nat) (c : AV) (env : Env) : Option Env :=
  match intOfA c with
  | some n' => if 0 ≤ n' ∧ n' ≤ 4294967296 ∧ bytes ≤ 32768 then some (env.put d (.sl (.own [d]) esz [])) else none
  | none => none

theorem wp_mko (hI : Inv R N env a E) {o : Oper} {t e : TypeId} {i : TypeInfo} {z : Value} {k0 : IntKind} {c : Operand} {d : Nat} (ho : o.op = .makeSlice t (.const (.int k0 0)) c) (hd : o.dst = some d) (hdN : d < N)
    (ht : P.underlying t = some (.slice e)) (hi : P.info? e = some i) (hz : i.zero = some z) (hzs : z.cells.size = i.size)
    {env' : Env} (h : stepMko i.size i.bytes d (env.ev c) env = some env')
    {K : Act → World → Prop} {Q : Exit → Act → World → Prop} (hK : ∀ v E', Inv R N env' (a.put (some d) v) E' → K (a.put (some d) v) E'.w) : o.wp P a E.w K Q := by
  unfold stepMko at h
  have hc := hI.ev c
  split at h
  case h_2 => cases h
  rename_i n hn
  unfold intOfA at hn
  split at hn
  case h_2 => cases hn
  rename_i kc n' hcv
  injection hn with hn
  subst hn
  rw [hcv] at hc
  simp only [Rep] at hc
  split at h
  case isFalse => cases h
  rename_i hb
  obtain ⟨h0, hm, hby⟩ := hb
  injection h with h
  subst h
  have hmul : (i.bytes : Int) * n' ≤ 140737488355328 := by
    have h1 : (i.bytes : Int) * n' ≤ (i.bytes : Int) * 4294967296 := Int.mul_le_mul_of_nonneg_left hm (by omega)
    omega
  have hrun := run_make (P := P) E.w t e i z ht hi hz k0 kc 0 n' (Int.le_refl _) h0 (by omega) (by omega)
  obtain ⟨E', hw', hI', _, hrep⟩ := hI.newOwn [d] (ty := e) (rows := []) (vs := []) (e := i.size) (cap := n'.toNat) (rest := (madeCells z.cells (n'.toNat * i.size)).toList) (by simp [RepL]) (by simp) (by simp [flat]) (Nat.zero_le _) (by simp only [maxLen]; omega) (by simp [flat, size_madeCells])
  unfold Oper.wp
  have hex : (execOp a.eval o).run P E.w = .ok (.value (.slice (some ⟨E.w.heap.size, 0, none⟩) 0 n'.toNat)) (E.w.alloc (.cells (madeCells z.cells (n'.toNat * i.size)) e)) := by
    have hz0 : a.eval (.const (.int k0 0)) = .int k0 0 := rfl
    simp [execOp, ho, hz0, hc, Sem.run_bind, hrun, Sem.run]
  rw [hex, Oper.upon_value, hd]
  have := hK _ E' (hI'.put hdN hrep)
  rw [hw'] at this
  simpa [flat] using this

theorem wp_box (hI : Inv R N env a E) {o : Oper} {t : TypeId} {x : Operand} {d : Nat} (ho : o.op = .box t x) (hd : o.dst = some d) (hdN : d < N)
    {env' : Env} (h : stepBox d x env = some env')
    {K : Act → World → Prop} {Q : Exit → Act → World → Prop} (hK : ∀ v E', Inv R N env' (a.put (some d) v) E' → K (a.put (some d) v) E'.w) : o.wp P a E.w K Q := by
  unfold stepBox at h
  split at h
  case isFalse => cases h
  rename_i hrow
  split at h
  case isFalse => cases h
  rename_i hone
  injection h with h
  subst h
  obtain ⟨E0, hw0, hI0, hl0, hc0⟩ := hI.fresh d
  have hx := hI0.ev x
  have hr := rep_cells hx (row_or hrow)
  obtain ⟨hI1, _⟩ := hI0.newLoc d hdN hl0 (ty := t) hr (repL_one hr (oneL_spec hone))
  unfold Oper.wp
  have hex : (execOp a.eval o).run P E.w = .ok (.value (.pointer (some ⟨E.w.heap.size, 0, none⟩))) (E.w.alloc (.cells (a.eval x).cells t)) := by
    simp [execOp, ho, Instr.box, Sem.run_bind, newVar, newRow, newObj, Sem.run, World.alloc_eq]
  rw [hex, Oper.upon_value, hd]
  have := hK _ _ (hI1.put hdN (rep_new E0 d _ _))
  simp only [hw0] at this
  exact this

end
end Go.Proofs.Ytmjmfollimaleaa.VL
