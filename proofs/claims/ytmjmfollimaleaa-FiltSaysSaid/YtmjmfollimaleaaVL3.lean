/- The value logic, part 3: what an environment says of a frame; values read. -/
import Derived.Test.YtmjmfollimaleaaVL2
set_option linter.unusedVariables false
set_option linter.unusedSimpArgs false
namespace Go.Proofs.Ytmjmfollimaleaa.VL
open Go.RowKit

/-- All that lay below the heap's old end stands as it stood, but for these blocks. -/
structure BelowX (M : Nat → Prop) (w0 w : World) : Prop where
  os : w.os = w0.os
  tape : w.tape = w0.tape
  output : w.output = w0.output
  size : w0.heap.size ≤ w.heap.size
  block : ∀ k, k < w0.heap.size → ¬ M k → w.heap[k]? = w0.heap[k]?

theorem BelowX.refl (M : Nat → Prop) (w : World) : BelowX M w w := ⟨rfl, rfl, rfl, Nat.le_refl _, fun _ _ _ => rfl⟩
theorem BelowX.alloc {M : Nat → Prop} {w0 w : World} (h : BelowX M w0 w) (o : Obj) : BelowX M w0 (w.alloc o) :=
  ⟨h.os, h.tape, h.output, by show w0.heap.size ≤ (w.heap.push o).size; have := h.size; simp; omega, fun k hk hm => by
    rw [heap_alloc_old w o k (Nat.lt_of_lt_of_le hk h.size)]; exact h.block k hk hm⟩
theorem BelowX.drew {M : Nat → Prop} {w0 w : World} (h : BelowX M w0 w) : BelowX M w0 w.drew := ⟨h.os, h.tape, h.output, h.size, h.block⟩
theorem BelowX.below {M : Nat → Prop} {w0 w : World} (h : BelowX M w0 w) (hM : ∀ k, ¬ M k) : Below w0.heap.size w0 w := ⟨h.os, h.tape, h.output, h.size, fun k hk => h.block k hk (hM k)⟩
theorem BelowX.cell {M : Nat → Prop} {w0 w : World} (h : BelowX M w0 w) {b o : Nat} (hb : b < w0.heap.size) (hm : ¬ M b) : w.cell? ⟨b, o, none⟩ = w0.cell? ⟨b, o, none⟩ := by
  simp only [World.cell?, h.block b hb hm]

/-- The blocks that were lent. -/
def RE.M (R : RE) (k : Nat) : Prop := ∃ c, R.loc c = some k

/-- The environment 'env' tells the frame 'a' in the world 'E.w' of a call that began in 'R.w'. -/
structure Inv (R : RE) (N : Nat) (env : Env) (a : Act) (E : RE) : Prop where
  defers : a.defers = []
  Nlim : N ≤ 100000
  lentl : ∀ c b, E.loc c = some b → 100000 ≤ c → R.loc c = some b
  size : a.tmps.size = N
  B : E.B = R.B
  Bok : ∀ b, E.B b → b < R.w.heap.size ∧ ¬ R.M b
  below : BelowX R.M R.w E.w
  Mlt : ∀ k, R.M k → k < R.w.heap.size
  MS : ∀ k, R.M k → ∀ o, ¬ E.S k o
  par : ∀ c b, R.loc c = some b → N ≤ c ∧ (E.loc c = none ∨ E.loc c = some b)
  G : E.G = R.G
  S0 : ∀ b o, b < R.w.heap.size → (E.S b o ↔ R.S b o)
  Slt : ∀ b o, E.S b o → b < E.w.heap.size
  ownlt : ∀ g τ, E.own g τ → R.w.heap.size ≤ g ∧ g < E.w.heap.size
  own1 : ∀ g τ τ', E.own g τ → E.own g τ' → τ = τ'
  locc : ∀ c b, E.loc c = some b → (R.w.heap.size ≤ b ∨ R.loc c = some b) ∧ (∀ o, ¬ E.S b o) ∧ (∀ τ, ¬ E.own b τ) ∧
    ∃ cs vals ty, env.c c = some cs ∧ E.w.heap[b]? = some (.cells vals ty (0, 0)) ∧ RepL E cs vals.toList ∧ ∀ u ∈ vals.toList, u.oneCell' = true
  locd : ∀ c cs, env.c c = some cs → ∃ b, E.loc c = some b
  loc1 : ∀ c c' b, E.loc c = some b → E.loc c' = some b → c = c'
  mlocc : ∀ c b, E.mloc c = some b → R.w.heap.size ≤ b ∧ b < E.w.heap.size ∧ (∀ o, ¬ E.S b o) ∧ (∀ τ, ¬ E.own b τ) ∧ ∀ c', E.loc c' ≠ some b
  mloc1 : ∀ c c' b, E.mloc c = some b → E.mloc c' = some b → c = c'
  slots : ∀ k, Rep E (env.s k) (a.tmps.getD k undef)

theorem rep_ofVal1 (E : RE) (v : Value) : Rep E (ofVal1 v) v := by
  unfold ofVal1
  split
  · simp only [Rep]
    exact ⟨none, 0, [], rfl, Nat.le_refl _, by simp [RepL], by simp, by simp [flat], rfl, rfl⟩
  · simp [Rep]

theorem repL_ofVal1 (E : RE) : ∀ l : List Value, RepL E (l.map ofVal1) l
  | [] => by simp [RepL]
  | v :: l => by
    simp only [List.map_cons, RepL]
    exact ⟨v, l, rfl, rep_ofVal1 E v, repL_ofVal1 E l⟩

theorem rep_nil (E : RE) (e : Nat) : Rep E (.sl .nil e []) (.slice none 0 0) := by
  simp only [Rep]
  exact ⟨none, 0, [], rfl, Nat.le_refl _, by simp [RepL], by simp, by simp [flat], rfl, rfl⟩

theorem rep_ofVal (E : RE) (v : Value) : Rep E (ofVal v) v := by
  unfold ofVal
  split
  · exact rep_nil E 0
  · simp only [Rep]
    exact ⟨_, by simp, repL_ofVal1 E _⟩
  · simp [Rep]


theorem Inv.ev {R : RE} {N : Nat} {env : Env} {a : Act} {E : RE} (h : Inv R N env a E) (x : Operand) : Rep E (env.ev x) (a.eval x) := by
  cases x with
  | tmp t => exact h.slots t
  | const v => exact rep_ofVal E v
  | global g => simp [Env.ev, Act.eval, Rep]
  | func f =>
    simp only [Env.ev, Act.eval, Rep]
    exact ⟨[], [], rfl, by simp [RepL], by simp [RepL]⟩

/-- A value is put into a slot. -/
theorem Inv.put {R : RE} {N : Nat} {env : Env} {a : Act} {E : RE} (h : Inv R N env a E) {k : Nat} (hk : k < N) {x : AV} {v : Value} (hx : Rep E x v) :
    Inv R N (env.put k x) (a.put (some k) v) E := by
  refine { h with defers := h.defers, size := by simp [Act.put, h.size], slots := fun j => ?_ }
  simp only [Env.put, upd, Act.put]
  by_cases hj : j = k
  · subst hj
    rw [if_pos rfl]
    have : j < a.tmps.size := by rw [h.size]; exact hk
    simpa [Array.getD_eq_getD_getElem?, Array.getElem?_setIfInBounds, this] using hx
  · rw [if_neg hj]
    have := h.slots j
    rw [Array.getD_eq_getD_getElem?] at this ⊢
    rw [Array.getElem?_setIfInBounds_ne (by omega)]
    exact this

/-- What was not written: no slot, or one that is not looked at any more. -/
theorem Inv.putDead {R : RE} {N : Nat} {env : Env} {a : Act} {E : RE} (h : Inv R N env a E) (k : Nat) (v : Value) :
    Inv R N (env.put k .dead) (a.put (some k) v) E := by
  refine { h with defers := h.defers, size := by simp [Act.put, h.size], slots := fun j => ?_ }
  simp only [Env.put, upd, Act.put]
  by_cases hj : j = k
  · rw [if_pos hj]; simp [Rep]
  · rw [if_neg hj]
    have := h.slots j
    rw [Array.getD_eq_getD_getElem?] at this ⊢
    rw [Array.getElem?_setIfInBounds_ne (by omega)]
    exact this

/-- Less is told. -/
theorem Inv.forget {R : RE} {N : Nat} {env env' : Env} {a : Act} {E : RE} (h : Inv R N env a E) (hs : ∀ k, env'.s k = env.s k ∨ env'.s k = .dead) (hc : env'.c = env.c) :
    Inv R N env' a E := by
  refine { h with locc := fun c b hb => by rw [hc]; exact h.locc c b hb, locd := fun c cs he => h.locd c cs (by rw [← hc]; exact he), slots := fun k => ?_ }
  rcases hs k with e | e
  · rw [e]; exact h.slots k
  · rw [e]; simp [Rep]

/-! ### Readings taken apart -/
theorem RepL.append {E : RE} : ∀ {xs ys : List AV} {vs ws : List Value}, RepL E xs vs → RepL E ys ws → RepL E (xs ++ ys) (vs ++ ws)
  | [], ys, vs, ws, h, h' => by
    simp only [RepL] at h
    subst h
    exact h'
  | x :: xs, ys, vs, ws, h, h' => by
    simp only [RepL] at h
    obtain ⟨v, us, rfl, h1, h2⟩ := h
    simp only [List.cons_append, RepL]
    exact ⟨v, us ++ ws, rfl, h1, RepL.append h2 h'⟩

theorem RepL.take {E : RE} : ∀ (n : Nat) {xs : List AV} {vs : List Value}, RepL E xs vs → RepL E (xs.take n) (vs.take n)
  | 0, xs, vs, h => by simp [RepL]
  | n + 1, [], vs, h => by
    simp only [RepL] at h
    subst h
    simp [RepL]
  | n + 1, x :: xs, vs, h => by
    simp only [RepL] at h
    obtain ⟨v, us, rfl, h1, h2⟩ := h
    simp only [List.take_succ_cons, RepL]
    exact ⟨v, _, rfl, h1, RepL.take n h2⟩

theorem RepL.drop {E : RE} : ∀ (n : Nat) {xs : List AV} {vs : List Value}, RepL E xs vs → RepL E (xs.drop n) (vs.drop n)
  | 0, xs, vs, h => by simpa using h
  | n + 1, [], vs, h => by
    simp only [RepL] at h
    subst h
    simp [RepL]
  | n + 1, x :: xs, vs, h => by
    simp only [RepL] at h
    obtain ⟨v, us, rfl, h1, h2⟩ := h
    simpa using RepL.drop n h2

theorem RepL.get {E : RE} : ∀ {xs : List AV} {vs : List Value} (i : Nat) {x : AV}, RepL E xs vs → xs[i]? = some x → ∃ v, vs[i]? = some v ∧ Rep E x v
  | [], vs, i, x, h, hi => by simp at hi
  | y :: xs, vs, 0, x, h, hi => by
    simp only [RepL] at h
    obtain ⟨v, us, rfl, h1, h2⟩ := h
    simp at hi
    subst hi
    exact ⟨v, rfl, h1⟩
  | y :: xs, vs, i + 1, x, h, hi => by
    simp only [RepL] at h
    obtain ⟨v, us, rfl, h1, h2⟩ := h
    simpa using RepL.get i h2 (by simpa using hi)

theorem RepL.map {E : RE} {α : Type} (f : α → AV) (g : α → Value) : ∀ (l : List α), (∀ x ∈ l, Rep E (f x) (g x)) → RepL E (l.map f) (l.map g)
  | [], _ => by simp [RepL]
  | x :: l, h => by
    simp only [List.map_cons, RepL]
    exact ⟨_, _, rfl, h x (by simp), RepL.map f g l fun y hy => h y (by simp [hy])⟩

theorem rep_one {E : RE} {x : AV} {v : Value} (h : Rep E x v) (hx : x.one = true) : v.oneCell' = true := by
  cases x with
  | lit u => simp only [Rep] at h; subst h; exact hx
  | agg cs => simp [AV.one] at hx
  | tup cs => simp [AV.one] at hx
  | dead => simp [AV.one] at hx
  | sl t e rows => simp only [Rep] at h; obtain ⟨_, _, _, rfl, _⟩ := h; rfl
  | rp cs => simp only [Rep] at h; obtain ⟨_, _, _, rfl, _⟩ := h; rfl
  | bp cs => simp only [Rep] at h; obtain ⟨_, _, _, rfl, _⟩ := h; rfl
  | lp c o => simp only [Rep] at h; obtain ⟨_, _, rfl⟩ := h; rfl
  | clo f a b => simp only [Rep] at h; obtain ⟨_, _, rfl, _⟩ := h; rfl
  | ifc t x => simp only [Rep] at h; obtain ⟨_, rfl, _⟩ := h; rfl
  | mp k vs => simp only [Rep] at h; obtain ⟨_, _, _, _, rfl, _⟩ := h; rfl
  | gl i => simp only [Rep] at h; obtain ⟨_, h⟩ := h; subst h; rfl
  | gp g => simp only [Rep] at h; subst h; rfl
  | ml c o n k g e => simp only [Rep] at h; obtain ⟨_, _, rfl⟩ := h; rfl
  | mu c k vs => simp only [Rep] at h; obtain ⟨_, _, _, _, _, rfl, _⟩ := h; rfl
  | mf t al => simp only [Rep] at h; obtain ⟨_, rfl, _⟩ := h; rfl

theorem cells_one {v : Value} (h : v.oneCell' = true) : v.cells = #[v] := by
  cases v <;> first | rfl | simp [Value.oneCell'] at h

/-- The cells of a value are what its cells tell. -/
theorem rep_cells {E : RE} {x : AV} {v : Value} (h : Rep E x v) (hx : x.one = true ∨ ∃ cs, x = .agg cs) : RepL E (cellsOf x) v.cells.toList := by
  rcases hx with hx | ⟨cs, rfl⟩
  · have hc : cellsOf x = [x] := by cases x <;> first | rfl | simp [AV.one] at hx
    rw [hc, cells_one (rep_one h hx)]
    simp only [RepL]
    exact ⟨v, [], rfl, h, rfl⟩
  · simp only [Rep] at h
    obtain ⟨vs, rfl, h⟩ := h
    simpa [cellsOf, Value.cells] using h

theorem repL_one {E : RE} : ∀ {xs : List AV} {vs : List Value}, RepL E xs vs → (∀ x ∈ xs, x.one = true) → ∀ u ∈ vs, u.oneCell' = true
  | [], vs, h, _ => by simp only [RepL] at h; simp [h]
  | x :: xs, vs, h, h1 => by
    simp only [RepL] at h
    obtain ⟨v, us, rfl, h2, h3⟩ := h
    intro u hu
    rcases List.mem_cons.1 hu with rfl | hu
    · exact rep_one h2 (h1 x (by simp))
    · exact repL_one h3 (fun y hy => h1 y (by simp [hy])) u hu

end Go.Proofs.Ytmjmfollimaleaa.VL
