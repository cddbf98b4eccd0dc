/- The value logic, part 8: memory of the call's own: local cells, slices that it owns. -/
import Derived.Test.YtmjmfollimaleaaVL7
set_option linter.unusedVariables false
set_option linter.unusedSimpArgs false
namespace Go.Proofs.Ytmjmfollimaleaa.VL
open Go.RowKit

mutual
/-- A local's pointers are forgotten. -/
def kill (d : Nat) : AV → AV
  | .lp c o => if c = d then .dead else .lp c o
  | .ml c o n k g e => if c = d then .dead else .ml c o n k g e
  | .agg cs => .agg (killL d cs)
  | .tup cs => .tup (killL d cs)
  | .clo f a b => .clo f (killL d a) (killL d b)
  | .ifc t v => .ifc t (kill d v)
  | x => x
def killL (d : Nat) : List AV → List AV
  | [] => []
  | x :: xs => kill d x :: killL d xs
end

mutual
/-- An owner's mark is struck. -/
def strip (τ : List Nat) : AV → AV
  | .sl (.own t) e rows => if t = τ then .sl .none e rows else .sl (.own t) e rows
  | .sl (.fr t) e rows => if t = τ then .sl .gone e rows else .sl (.fr t) e rows
  | .mf t al => .mf t (al && decide (t ≠ τ))
  | .agg cs => .agg (stripL τ cs)
  | .tup cs => .tup (stripL τ cs)
  | .clo f a b => .clo f (stripL τ a) (stripL τ b)
  | .ifc t v => .ifc t (strip τ v)
  | x => x
def stripL (τ : List Nat) : List AV → List AV
  | [] => []
  | x :: xs => strip τ x :: stripL τ xs
end

mutual
/-- Maps that bear such a name are forgotten. -/
def killn (p : List Nat → Bool) : AV → AV
  | .mu t k v => if p t = true then .dead else .mu t k v
  | .agg cs => .agg (killnL p cs)
  | .tup cs => .tup (killnL p cs)
  | .clo f a b => .clo f (killnL p a) (killnL p b)
  | .ifc t v => .ifc t (killn p v)
  | x => x
def killnL (p : List Nat → Bool) : List AV → List AV
  | [] => []
  | x :: xs => killn p x :: killnL p xs
end

def Env.killn (E : Env) (p : List Nat → Bool) : Env := ⟨fun k => VL.killn p (E.s k), fun c => (E.c c).map (killnL p)⟩
def RE.unname (E : RE) (p : List Nat → Bool) : RE := { E with mloc := fun t => if p t = true then none else E.mloc t }

def Env.forget (E : Env) (d : Nat) : Env := ⟨fun k => kill d (E.s k), fun c => if c = d then none else (E.c c).map (killL d)⟩
def Env.strip (E : Env) (τ : List Nat) : Env := ⟨fun k => VL.strip τ (E.s k), fun c => (E.c c).map (stripL τ)⟩
def Env.fresh (E : Env) (d : Nat) : Env := match E.c d with | none => E | some _ => E.forget d

def RE.unloc (E : RE) (d : Nat) : RE := { E with loc := fun c => if c = d then none else E.loc c }
def RE.unown (E : RE) (τ : List Nat) : RE := { E with own := fun g t => E.own g t ∧ t ≠ τ }

theorem RE.unloc_closed (E : RE) (d : Nat) : (E.unloc d).closed = E.closed := by simp [RE.unloc, RE.closed]
theorem RE.unloc_bor (E : RE) (d : Nat) : (E.unloc d).bor = E.bor := by
  simp only [RE.unloc, RE.bor]
theorem RE.unname_closed (E : RE) (p : List Nat → Bool) : (E.unname p).closed = E.closed := by simp [RE.unname, RE.closed]
theorem RE.unname_bor (E : RE) (p : List Nat → Bool) : (E.unname p).bor = E.bor := by simp only [RE.unname, RE.bor]

mutual
theorem rep_killn (p : List Nat → Bool) : ∀ {x : AV} {E : RE} {v : Value}, Rep E x v → Rep (E.unname p) (killn p x) v
  | .lit u, E, v, h => by simpa only [killn, Rep] using h
  | .agg cs, E, v, h => by
    simp only [killn, Rep] at h ⊢
    obtain ⟨vs, rfl, h⟩ := h
    exact ⟨vs, rfl, repL_killn p h⟩
  | .tup cs, E, v, h => by
    simp only [killn, Rep] at h ⊢
    obtain ⟨vs, rfl, h⟩ := h
    exact ⟨vs, rfl, repL_killn p h⟩
  | .sl t e rows, E, v, h => by
    simp only [killn]
    simp only [Rep, RE.unname_closed] at h ⊢
    exact h
  | .mf t al, E, v, h => by
    simp only [killn]
    simp only [Rep] at h ⊢
    exact h
  | .rp cs, E, v, h => by
    simp only [killn]
    simp only [Rep, RE.unname_closed] at h ⊢
    exact h
  | .bp cs, E, v, h => by
    simp only [killn]
    simp only [Rep, RE.unname_bor] at h ⊢
    exact h
  | .lp c o, E, v, h => by simp only [killn, Rep] at h ⊢; exact h
  | .ml c o n k g e, E, v, h => by simp only [killn, Rep] at h ⊢; exact h
  | .mu t k vs, E, v, h => by
    simp only [killn]
    split
    · simp only [Rep]
    · rename_i hp
      simp only [Rep, RE.unname_closed] at h ⊢
      obtain ⟨b, es, ck, vs', hb, h⟩ := h
      exact ⟨b, es, ck, vs', by simp [RE.unname, hp, hb], h⟩
  | .clo f a b, E, v, h => by
    simp only [killn, Rep] at h ⊢
    obtain ⟨fs, cs, rfl, h1, h2⟩ := h
    exact ⟨fs, cs, rfl, repL_killn p h1, repL_killn p h2⟩
  | .ifc t x, E, v, h => by
    simp only [killn, Rep] at h ⊢
    obtain ⟨u, rfl, h⟩ := h
    exact ⟨u, rfl, rep_killn p h⟩
  | .mp keys vals, E, v, h => by
    simp only [killn]
    simp only [Rep, RE.unname_closed] at h ⊢
    exact h
  | .gl i, E, v, h => by simp only [killn, Rep] at h ⊢; exact h
  | .gp g, E, v, h => by simpa only [killn, Rep] using h
  | .dead, E, v, h => by simp only [killn, Rep]
theorem repL_killn (p : List Nat → Bool) : ∀ {xs : List AV} {E : RE} {vs : List Value}, RepL E xs vs → RepL (E.unname p) (killnL p xs) vs
  | [], E, vs, h => by simpa only [killnL, RepL] using h
  | x :: xs, E, vs, h => by
    simp only [killnL, RepL] at h ⊢
    obtain ⟨v, ws, rfl, h1, h2⟩ := h
    exact ⟨v, ws, rfl, rep_killn p h1, repL_killn p h2⟩
end

theorem RE.unown_closed (E : RE) (τ : List Nat) : (E.unown τ).closed = E.closed := rfl
theorem RE.unown_bor (E : RE) (τ : List Nat) : (E.unown τ).bor = E.bor := rfl

mutual
theorem rep_kill (d : Nat) : ∀ {x : AV} {E : RE} {v : Value}, Rep E x v → Rep (E.unloc d) (kill d x) v
  | .lit u, E, v, h => by simpa only [kill, Rep] using h
  | .agg cs, E, v, h => by
    simp only [kill, Rep] at h ⊢
    obtain ⟨vs, rfl, h⟩ := h
    exact ⟨vs, rfl, repL_kill d h⟩
  | .tup cs, E, v, h => by
    simp only [kill, Rep] at h ⊢
    obtain ⟨vs, rfl, h⟩ := h
    exact ⟨vs, rfl, repL_kill d h⟩
  | .sl t e rows, E, v, h => by
    simp only [kill]
    simp only [Rep, RE.unloc_closed] at h ⊢
    exact h
  | .rp cs, E, v, h => by
    simp only [kill]
    simp only [Rep, RE.unloc_closed] at h ⊢
    exact h
  | .bp cs, E, v, h => by
    simp only [kill]
    simp only [Rep, RE.unloc_bor] at h ⊢
    exact h
  | .lp c o, E, v, h => by
    simp only [kill]
    split
    · simp [Rep]
    · rename_i hc
      simp only [Rep] at h ⊢
      obtain ⟨b, hb, rfl⟩ := h
      exact ⟨b, by simp [RE.unloc, hc, hb], rfl⟩
  | .ml c o n k g e, E, v, h => by
    simp only [kill]
    split
    · simp [Rep]
    · rename_i hc
      simp only [Rep] at h ⊢
      obtain ⟨b, hb, rfl⟩ := h
      exact ⟨b, by simp [RE.unloc, hc, hb], rfl⟩
  | .mu t k vs, E, v, h => by
    simp only [kill]
    simp only [Rep, RE.unloc_closed] at h ⊢
    exact h
  | .mf t al, E, v, h => by
    simp only [kill]
    simp only [Rep] at h ⊢
    exact h
  | .clo f a b, E, v, h => by
    simp only [kill, Rep] at h ⊢
    obtain ⟨fs, cs, rfl, h1, h2⟩ := h
    exact ⟨fs, cs, rfl, repL_kill d h1, repL_kill d h2⟩
  | .ifc t x, E, v, h => by
    simp only [kill, Rep] at h ⊢
    obtain ⟨u, rfl, h⟩ := h
    exact ⟨u, rfl, rep_kill d h⟩
  | .mp keys vals, E, v, h => by
    simp only [kill]
    simp only [Rep, RE.unloc_closed] at h ⊢
    exact h
  | .gl i, E, v, h => by simp only [kill, Rep] at h ⊢; exact h
  | .gp g, E, v, h => by simpa only [kill, Rep] using h
  | .dead, E, v, h => by simp only [kill, Rep]
theorem repL_kill (d : Nat) : ∀ {xs : List AV} {E : RE} {vs : List Value}, RepL E xs vs → RepL (E.unloc d) (killL d xs) vs
  | [], E, vs, h => by simpa only [killL, RepL] using h
  | x :: xs, E, vs, h => by
    simp only [killL, RepL] at h ⊢
    obtain ⟨v, ws, rfl, h1, h2⟩ := h
    exact ⟨v, ws, rfl, rep_kill d h1, repL_kill d h2⟩
end

mutual
theorem rep_strip (τ : List Nat) : ∀ {x : AV} {E : RE} {v : Value}, Rep E x v → Rep (E.unown τ) (strip τ x) v
  | .lit u, E, v, h => by simpa only [strip, Rep] using h
  | .agg cs, E, v, h => by
    simp only [strip, Rep] at h ⊢
    obtain ⟨vs, rfl, h⟩ := h
    exact ⟨vs, rfl, repL_strip τ h⟩
  | .tup cs, E, v, h => by
    simp only [strip, Rep] at h ⊢
    obtain ⟨vs, rfl, h⟩ := h
    exact ⟨vs, rfl, repL_strip τ h⟩
  | .sl .none e rows, E, v, h => by
    simp only [strip]
    simp only [Rep, RE.unown_closed] at h ⊢
    exact h
  | .sl .nil e rows, E, v, h => by
    simp only [strip]
    simp only [Rep, RE.unown_closed] at h ⊢
    exact h
  | .sl .bor e rows, E, v, h => by
    simp only [strip]
    simp only [Rep, RE.unown_closed] at h ⊢
    exact h
  | .sl .gone e rows, E, v, h => by
    simp only [strip]
    simp only [Rep, RE.unown_closed] at h ⊢
    exact h
  | .sl (.fr t) e rows, E, v, h => by
    simp only [strip]
    split
    · simp only [Rep, RE.unown_closed] at h ⊢
      obtain ⟨A, cap, vs, rfl, hcap, hr, he, h1, ht⟩ := h
      exact ⟨A, cap, vs, rfl, hcap, hr, he, h1, trivial⟩
    · rename_i hne
      simp only [Rep, RE.unown_closed] at h ⊢
      obtain ⟨A, cap, vs, rfl, hcap, hr, he, h1, ht⟩ := h
      refine ⟨A, cap, vs, rfl, hcap, hr, he, h1, ?_⟩
      rcases ht with ht | ⟨g, cur, ty, ha, hat, hh, hm, hc, ho, hs⟩
      · exact .inl ht
      · exact .inr ⟨g, cur, ty, ha, hat, hh, hm, hc, ⟨ho, hne⟩, hs⟩
  | .mf t al, E, v, h => by
    simp only [strip, Rep] at h ⊢
    obtain ⟨b, rfl, h⟩ := h
    refine ⟨b, rfl, fun e => ?_⟩
    simp only [Bool.and_eq_true, decide_eq_true_eq] at e
    obtain ⟨hh, ho, hs⟩ := h e.1
    exact ⟨hh, ⟨ho, e.2⟩, hs⟩
  | .mu t k vs, E, v, h => by
    simp only [strip]
    simp only [Rep, RE.unown_closed] at h ⊢
    exact h
  | .sl (.own t) e rows, E, v, h => by
    simp only [strip]
    split
    · simp only [Rep, RE.unown_closed] at h ⊢
      obtain ⟨A, cap, vs, rfl, hcap, hr, he, h1, ht⟩ := h
      refine ⟨A, cap, vs, rfl, hcap, hr, he, h1, fun hne => ?_⟩
      rcases ht with ⟨_, h0⟩ | ⟨g, cur, ty, ha, hat, _⟩
      · exact absurd (List.eq_nil_of_length_eq_zero (by omega)) hne
      · exact ⟨g, 0, ha, hat⟩
    · rename_i hne
      simp only [Rep, RE.unown_closed] at h ⊢
      obtain ⟨A, cap, vs, rfl, hcap, hr, he, h1, ht⟩ := h
      refine ⟨A, cap, vs, rfl, hcap, hr, he, h1, ?_⟩
      rcases ht with ht | ⟨g, cur, ty, ha, hat, hh, hm, hc, ho, hs⟩
      · exact .inl ht
      · exact .inr ⟨g, cur, ty, ha, hat, hh, hm, hc, ⟨ho, hne⟩, hs⟩
  | .rp cs, E, v, h => by
    simp only [strip]
    simp only [Rep, RE.unown_closed] at h ⊢
    exact h
  | .bp cs, E, v, h => by
    simp only [strip]
    simp only [Rep, RE.unown_bor] at h ⊢
    exact h
  | .lp c o, E, v, h => by simp only [strip, Rep] at h ⊢; exact h
  | .ml c o n k g e, E, v, h => by simp only [strip, Rep] at h ⊢; exact h
  | .clo f a b, E, v, h => by
    simp only [strip, Rep] at h ⊢
    obtain ⟨fs, cs, rfl, h1, h2⟩ := h
    exact ⟨fs, cs, rfl, repL_strip τ h1, repL_strip τ h2⟩
  | .ifc t x, E, v, h => by
    simp only [strip, Rep] at h ⊢
    obtain ⟨u, rfl, h⟩ := h
    exact ⟨u, rfl, rep_strip τ h⟩
  | .mp keys vals, E, v, h => by
    simp only [strip]
    simp only [Rep, RE.unown_closed] at h ⊢
    exact h
  | .gl i, E, v, h => by simp only [strip, Rep] at h ⊢; exact h
  | .gp g, E, v, h => by simpa only [strip, Rep] using h
  | .dead, E, v, h => by simp only [strip, Rep]
theorem repL_strip (τ : List Nat) : ∀ {xs : List AV} {E : RE} {vs : List Value}, RepL E xs vs → RepL (E.unown τ) (stripL τ xs) vs
  | [], E, vs, h => by simpa only [stripL, RepL] using h
  | x :: xs, E, vs, h => by
    simp only [stripL, RepL] at h ⊢
    obtain ⟨v, ws, rfl, h1, h2⟩ := h
    exact ⟨v, ws, rfl, rep_strip τ h1, repL_strip τ h2⟩
end

section
variable {P : Program} {R : RE} {N : Nat} {env : Env} {a : Act} {E : RE}

theorem Inv.forgetLoc (h : Inv R N env a E) (d : Nat) : Inv R N (env.forget d) a (E.unloc d) := by
  refine { h with lentl := fun c b hb hc => ?_, par := fun c b hb => ⟨(h.par c b hb).1, ?_⟩, locc := fun c b hb => ?_, locd := fun c cs hc => ?_, loc1 := fun c c' b h1 h2 => ?_, mlocc := fun c b hb => ?_, slots := fun k => rep_kill d (h.slots k) }
  · simp only [RE.unloc] at hb
    split at hb
    · cases hb
    · exact h.lentl c b hb hc
  · simp only [RE.unloc]
    split
    · exact .inl rfl
    · exact (h.par c b hb).2
  · simp only [RE.unloc] at hb
    split at hb
    · cases hb
    · rename_i hne
      obtain ⟨h1, h2, h3, cs, vals, ty, hcs, hh, hr, ho⟩ := h.locc c b hb
      exact ⟨h1, h2, h3, killL d cs, vals, ty, by simp [Env.forget, hne, hcs], hh, repL_kill d hr, ho⟩
  · simp only [Env.forget] at hc
    split at hc
    · cases hc
    · rename_i hne
      obtain ⟨cs', hcs', _⟩ := Option.map_eq_some_iff.1 hc
      obtain ⟨b, hb⟩ := h.locd c cs' hcs'
      exact ⟨b, by simp [RE.unloc, hne, hb]⟩
  · simp only [RE.unloc] at h1 h2
    split at h1
    · cases h1
    · split at h2
      · cases h2
      · exact h.loc1 c c' b h1 h2
  · obtain ⟨h1, h2, h3, h4, h5⟩ := h.mlocc c b hb
    refine ⟨h1, h2, h3, h4, fun c' hc => ?_⟩
    simp only [RE.unloc] at hc
    split at hc
    · cases hc
    · exact h5 c' hc

/-- Names are forgotten. -/
theorem Inv.unname (h : Inv R N env a E) (p : List Nat → Bool) : Inv R N (env.killn p) a (E.unname p) := by
  refine { h with locc := fun c b hb => ?_, locd := fun c cs hc => ?_, mlocc := fun c b hb => ?_, mloc1 := fun c c' b h1 h2 => ?_, slots := fun k => rep_killn p (h.slots k) }
  · obtain ⟨h1, h2, h3, cs, vals, ty, hcs, hh, hr, ho⟩ := h.locc c b hb
    exact ⟨h1, h2, h3, killnL p cs, vals, ty, by simp [Env.killn, hcs], hh, repL_killn p hr, ho⟩
  · obtain ⟨cs', hcs', _⟩ := Option.map_eq_some_iff.1 hc
    exact h.locd c cs' hcs'
  · simp only [RE.unname] at hb
    split at hb
    · cases hb
    · exact h.mlocc c b hb
  · simp only [RE.unname] at h1 h2
    split at h1
    · cases h1
    · split at h2
      · cases h2
      · exact h.mloc1 c c' b h1 h2

theorem Inv.fresh (h : Inv R N env a E) (d : Nat) : ∃ E', E'.w = E.w ∧ Inv R N (env.fresh d) a E' ∧ E'.loc d = none ∧ (env.fresh d).c d = none := by
  unfold Env.fresh
  split
  · rename_i hc
    refine ⟨E, rfl, h, ?_, hc⟩
    cases hl : E.loc d with
    | none => rfl
    | some b =>
      obtain ⟨_, _, _, cs, _, _, hcs, _⟩ := h.locc d b hl
      rw [hc] at hcs
      cases hcs
  · exact ⟨E.unloc d, rfl, h.forgetLoc d, by simp [RE.unloc], by simp [Env.forget]⟩

theorem Inv.unownT (h : Inv R N env a E) (τ : List Nat) : Inv R N (env.strip τ) a (E.unown τ) := by
  refine { h with ownlt := fun g t ho => h.ownlt g t ho.1, own1 := fun g t t' h1 h2 => h.own1 g t t' h1.1 h2.1, locc := fun c b hb => ?_, locd := fun c cs hc => ?_, mlocc := fun c b hb => let ⟨h1, h2, h3, h4, h5⟩ := h.mlocc c b hb; ⟨h1, h2, h3, fun t ht => h4 t ht.1, h5⟩, slots := fun k => rep_strip τ (h.slots k) }
  · obtain ⟨h1, h2, h3, cs, vals, ty, hcs, hh, hr, ho⟩ := h.locc c b hb
    exact ⟨h1, h2, fun t ht => h3 t ht.1, stripL τ cs, vals, ty, by simp [Env.strip, hcs], hh, repL_strip τ hr, ho⟩
  · obtain ⟨cs', hcs', _⟩ := Option.map_eq_some_iff.1 hc
    exact h.locd c cs' hcs'

theorem lt_of_heap {w : World} {b : Nat} {o : Obj} (h : w.heap[b]? = some o) : b < w.heap.size := (Array.getElem?_eq_some_iff.1 h).1

theorem cell_alloc {w : World} (o : Obj) {b off : Nat} (h : b < w.heap.size) : (w.alloc o).cell? ⟨b, off, none⟩ = w.cell? ⟨b, off, none⟩ := by
  simp only [World.cell?, heap_alloc_old w o b h]

theorem size_alloc (w : World) (o : Obj) : (w.alloc o).heap.size = w.heap.size + 1 := by
  show (w.heap.push o).size = _
  simp

/-- A new local cell. -/
theorem Inv.newLoc (h : Inv R N env a E) (d : Nat) (hdN : d < N) (hd : E.loc d = none) {cs : List AV} {vals : Array Value} {ty : TypeId} (hr : RepL E cs vals.toList) (ho : ∀ u ∈ vals.toList, u.oneCell' = true) :
    Inv R N (env.putc d cs) a { E with w := E.w.alloc (.cells vals ty), loc := upd E.loc d (some E.w.heap.size) } ∧
      Ext E { E with w := E.w.alloc (.cells vals ty), loc := upd E.loc d (some E.w.heap.size) } := by
  have hB : R.w.heap.size ≤ E.w.heap.size := h.below.size
  have hx : Ext E { E with w := E.w.alloc (.cells vals ty), loc := upd E.loc d (some E.w.heap.size) } := by
    refine ⟨fun _ _ h => h, fun _ h => h, fun b o u hb hc => ?_, fun b es ck hb hc => ?_, fun c b hc => ?_, fun g τ hg => ⟨hg, ?_, fun _ h => h⟩, rfl, fun c b hc => ⟨hc, heap_alloc_old _ _ _ (h.mlocc c b hc).2.1⟩⟩
    · have hlt : b < E.w.heap.size := hb.elim (h.Slt b o) fun hb => Nat.lt_of_lt_of_le (h.Bok b hb).1 h.below.size
      rw [cell_alloc _ hlt]; exact hc
    · rw [heap_alloc_old _ _ _ (h.Slt b 0 hb)]; exact hc
    · simp only [upd]
      rw [if_neg (fun e => by rw [e, hd] at hc; cases hc)]
      exact hc
    · exact heap_alloc_old _ _ _ (h.ownlt g τ hg).2
  refine ⟨⟨h.defers, h.Nlim, fun c b hc hc2 => ?_, h.size, h.B, h.Bok, h.below.alloc _, h.Mlt, h.MS, fun c b hc => ⟨(h.par c b hc).1, ?_⟩, h.G, h.S0, fun b o hb => ?_, fun g τ hg => ⟨(h.ownlt g τ hg).1, ?_⟩, h.own1, fun c b hb => ?_, fun c cs' hc => ?_, fun c c' b h1 h2 => ?_, fun c b hc => ?_, h.mloc1, fun k => (h.slots k).mono hx⟩, hx⟩
  · have := h.Nlim
    simp only [upd] at hc
    rw [if_neg (by omega)] at hc
    exact h.lentl c b hc hc2
  · simp only [upd]
    rw [if_neg (by have := (h.par c b hc).1; omega)]
    exact (h.par c b hc).2
  · rw [size_alloc]; have := h.Slt b o hb; omega
  · have := (h.ownlt g τ hg).2; rw [size_alloc]; omega
  · simp only [upd] at hb
    split at hb
    · rename_i hcd
      subst hcd
      injection hb with hb
      subst hb
      refine ⟨.inl hB, fun o hs => ?_, fun τ hg => ?_, cs, vals, ty, by simp [Env.putc, upd], heap_alloc_new _ _, hr.mono hx, ho⟩
      · have := h.Slt _ o hs; omega
      · have := (h.ownlt _ τ hg).2; omega
    · rename_i hcd
      obtain ⟨h1, h2, h3, cs', vals', ty', hcs, hh, hr', ho'⟩ := h.locc c b hb
      exact ⟨h1, h2, h3, cs', vals', ty', by simp [Env.putc, upd, hcd, hcs], (heap_alloc_old _ _ _ (lt_of_heap hh)).trans hh, hr'.mono hx, ho'⟩
  · simp only [Env.putc, upd] at hc ⊢
    split at hc
    · rename_i hcd; exact ⟨_, by rw [if_pos hcd]⟩
    · rename_i hcd
      rw [if_neg hcd]
      exact h.locd c cs' hc
  · simp only [upd] at h1 h2
    have old : ∀ c, E.loc c = some b → b < E.w.heap.size := fun c hc => by
      obtain ⟨_, _, _, _, _, _, _, hh, _⟩ := h.locc c b hc
      exact lt_of_heap hh
    split at h1 <;> split at h2
    · omega
    · injection h1 with h1
      have := old c' h2
      omega
    · injection h2 with h2
      have := old c h1
      omega
    · exact h.loc1 c c' b h1 h2
  · obtain ⟨h1, h2, h3, h4, h5⟩ := h.mlocc c b hc
    refine ⟨h1, by rw [size_alloc]; omega, h3, h4, fun c' hc' => ?_⟩
    simp only [upd] at hc'
    split at hc'
    · injection hc' with hc'; omega
    · exact h5 c' hc'

/-- A new row that the call owns. -/
theorem Inv.newOwn (h : Inv R N env a E) (τ : List Nat) {rows : List AV} {vs : List Value} {e cap : Nat} {ty : TypeId} {rest : List Value} (hr : RepL E.closed rows vs) (he : ∀ u ∈ vs, u.cells.size = e)
    (ho : ∀ u ∈ flat vs, u.oneCell' = true) (hcap : rows.length ≤ cap) (hm : cap ≤ maxLen) (hl : (flat vs ++ rest).length = cap * e) :
    ∃ E', E'.w = E.w.alloc (.cells (flat vs ++ rest).toArray ty) ∧ Inv R N env a E' ∧ Ext E E' ∧ Rep E' (.sl (.own τ) e rows) (.slice (some ⟨E.w.heap.size, 0, none⟩) rows.length cap) := by
  have hB : R.w.heap.size ≤ E.w.heap.size := h.below.size
  let E' : RE := { E with w := E.w.alloc (.cells (flat vs ++ rest).toArray ty), S := fun b o => E.S b o ∨ (b = E.w.heap.size ∧ o < rows.length * e), own := fun g t => E.own g t ∨ (g = E.w.heap.size ∧ t = τ) }
  have hx : Ext E E' := by
    refine ⟨fun _ _ h => .inl h, fun _ h => h, fun b o u hb hc => ?_, fun b es ck hb hc => ?_, fun c b hc => hc, fun g τ hg => ⟨.inl hg, ?_, fun o hs => ?_⟩, rfl, fun c b hc => ⟨hc, heap_alloc_old _ _ _ (h.mlocc c b hc).2.1⟩⟩
    · have hlt : b < E.w.heap.size := hb.elim (h.Slt b o) fun hb => Nat.lt_of_lt_of_le (h.Bok b hb).1 h.below.size
      exact (cell_alloc _ hlt).trans hc
    · exact (heap_alloc_old _ _ _ (h.Slt b 0 hb)).trans hc
    · exact heap_alloc_old _ _ _ (h.ownlt g τ hg).2
    · rcases hs with hs | ⟨hs, _⟩
      · exact hs
      · have := (h.ownlt g τ hg).2; omega
  have hfl := flat_length he
  have hvl := hr.length
  refine ⟨E', rfl, ⟨h.defers, h.Nlim, h.lentl, h.size, h.B, h.Bok, h.below.alloc _, h.Mlt, fun k hk o hs => ?_, h.par, h.G, fun b o hb => ?_, fun b o hb => ?_, fun g t hg => ?_, fun g t t' h1 h2 => ?_, fun c b hb => ?_, h.locd, h.loc1, fun c b hc => ?_, h.mloc1, fun k => (h.slots k).mono hx⟩, hx, ?_⟩
  · rcases hs with hs | ⟨hs, _⟩
    · exact h.MS k hk o hs
    · have := h.Mlt k hk; omega
  · rw [← h.S0 b o hb]
    constructor
    · rintro (hs | ⟨hs, _⟩)
      · exact hs
      · omega
    · exact .inl
  · show b < (E.w.alloc _).heap.size
    rw [size_alloc]
    rcases hb with hb | ⟨hb, _⟩
    · have := h.Slt b o hb; omega
    · omega
  · show _ ∧ g < (E.w.alloc _).heap.size
    rw [size_alloc]
    rcases hg with hg | ⟨hg, _⟩
    · have := h.ownlt g t hg; exact ⟨this.1, by omega⟩
    · subst hg; exact ⟨hB, by omega⟩
  · rcases h1 with h1 | ⟨h1, rfl⟩ <;> rcases h2 with h2 | ⟨h2, rfl⟩
    · exact h.own1 g t t' h1 h2
    · have := (h.ownlt g t h1).2; omega
    · have := (h.ownlt g t' h2).2; omega
    · rfl
  · obtain ⟨h1, h2, h3, cs', vals', ty', hcs, hh, hr', ho'⟩ := h.locc c b hb
    have hlt := lt_of_heap hh
    refine ⟨h1, fun o hs => ?_, fun t ht => ?_, cs', vals', ty', hcs, (heap_alloc_old _ _ _ hlt).trans hh, hr'.mono hx, ho'⟩
    · rcases hs with hs | ⟨hs, _⟩
      · exact h2 o hs
      · omega
    · rcases ht with ht | ⟨ht, _⟩
      · exact h3 t ht
      · omega
  · obtain ⟨h1, h2, h3, h4, h5⟩ := h.mlocc c b hc
    refine ⟨h1, by show b < (E.w.alloc _).heap.size; rw [size_alloc]; omega, fun o hs => ?_, fun t ht => ?_, h5⟩
    · rcases hs with hs | ⟨hs, _⟩
      · exact h3 o hs
      · omega
    · rcases ht with ht | ⟨ht, _⟩
      · exact h4 t ht
      · omega
  · simp only [Rep]
    refine ⟨_, cap, vs, rfl, hcap, hr.mono hx.closed, he, ho, .inr ⟨E.w.heap.size, (flat vs ++ rest).toArray, ty, rfl, ?_, heap_alloc_new _ _, hm, by simpa using hl, .inr ⟨rfl, rfl⟩, fun o hs => ?_⟩⟩
    · intro j u hj
      have hjl : j < (flat vs).length := (List.getElem?_eq_some_iff.1 hj).1
      refine ⟨.inr ⟨rfl, by rw [← hvl]; omega⟩, ?_⟩
      show (E.w.alloc _).cell? _ = _
      simp only [World.cell?, heap_alloc_new]
      simp [List.getElem?_append_left hjl, hj]
    · rcases hs with hs | ⟨_, hs⟩
      · have := h.Slt _ o hs; omega
      · exact hs

/-- A block that nobody else knows takes a label. -/
theorem Inv.takeLab (h : Inv R N env a E) (τ : List Nat) {g : Nat} {w' : World} (hg1 : R.w.heap.size ≤ g) (hg2 : g < w'.heap.size) (hgS : ∀ o, ¬ E.S g o) (hgo : ∀ t, ¬ E.own g t)
    (hgl : ∀ c, E.loc c ≠ some g) (hgm : ∀ t, E.mloc t ≠ some g) (hsz : E.w.heap.size ≤ w'.heap.size) (hos : w'.os = E.w.os) (htape : w'.tape = E.w.tape) (hout : w'.output = E.w.output)
    (hoth : ∀ b, b ≠ g → b < E.w.heap.size → w'.heap[b]? = E.w.heap[b]?) :
    Inv R N env a { E with w := w', own := fun k t => E.own k t ∨ (k = g ∧ t = τ) } ∧ Ext E { E with w := w', own := fun k t => E.own k t ∨ (k = g ∧ t = τ) } := by
  have hB : ∀ b, E.B b → b ≠ g := fun b hb e => by have := (h.Bok b hb).1; omega
  have hS : ∀ b o, E.S b o → b ≠ g := fun b o hs e => hgS o (e ▸ hs)
  have hx : Ext E { E with w := w', own := fun k t => E.own k t ∨ (k = g ∧ t = τ) } := by
    refine ⟨fun _ _ h => h, fun _ h => h, fun b o u hb hc => ?_, fun b es ck hb hc => ?_, fun c b hc => hc, fun k t hk => ⟨.inl hk, ?_, fun _ h => h⟩, rfl, fun t b hb => ⟨hb, ?_⟩⟩
    · have hlt : b < E.w.heap.size := hb.elim (h.Slt b o) fun hb => Nat.lt_of_lt_of_le (h.Bok b hb).1 h.below.size
      have hne : b ≠ g := hb.elim (hS b o) (hB b)
      have e := hoth b hne hlt
      simp only [World.cell?, e] at hc ⊢
      exact hc
    · exact (hoth b (hS b 0 hb) (h.Slt b 0 hb)).trans hc
    · exact hoth k (fun e => hgo t (e ▸ hk)) (h.ownlt k t hk).2
    · exact hoth b (fun e => hgm t (e ▸ hb)) (h.mlocc t b hb).2.1
  refine ⟨⟨h.defers, h.Nlim, h.lentl, h.size, h.B, h.Bok, ⟨hos.trans h.below.os, htape.trans h.below.tape, hout.trans h.below.output, Nat.le_trans h.below.size hsz, fun k hk hM => ?_⟩, h.Mlt, h.MS, h.par, h.G, h.S0, fun b o hb => ?_, fun k t hk => ?_, fun k t t' h1 h2 => ?_, fun c b hb => ?_, h.locd, h.loc1, fun t b hb => ?_, h.mloc1, fun k => (h.slots k).mono hx⟩, hx⟩
  · exact (hoth k (by omega) (Nat.lt_of_lt_of_le hk h.below.size)).trans (h.below.block k hk hM)
  · have := h.Slt b o hb; show b < w'.heap.size; omega
  · rcases hk with hk | ⟨hk, _⟩
    · have := h.ownlt k t hk; exact ⟨this.1, by show k < w'.heap.size; omega⟩
    · subst hk; exact ⟨hg1, hg2⟩
  · rcases h1 with h1 | ⟨h1, rfl⟩ <;> rcases h2 with h2 | ⟨h2, rfl⟩
    · exact h.own1 k t t' h1 h2
    · exact absurd (h2 ▸ h1) (hgo t)
    · exact absurd (h1 ▸ h2) (hgo t')
    · rfl
  · obtain ⟨h1, h2, h3, cs, vals, ty, hcs, hh, hr, ho⟩ := h.locc c b hb
    have hne : b ≠ g := fun e => hgl c (e ▸ hb)
    refine ⟨h1, h2, fun t ht => ?_, cs, vals, ty, hcs, (hoth b hne (lt_of_heap hh)).trans hh, hr.mono hx, ho⟩
    rcases ht with ht | ⟨ht, _⟩
    · exact h3 t ht
    · exact hne ht
  · obtain ⟨h1, h2, h3, h4, h5⟩ := h.mlocc t b hb
    refine ⟨h1, by show b < w'.heap.size; omega, h3, fun t' ht => ?_, h5⟩
    rcases ht with ht | ⟨ht, _⟩
    · exact h4 t' ht
    · exact hgm t (ht ▸ hb)

/-- A new block takes a label. -/
theorem Inv.newLab (h : Inv R N env a E) (τ : List Nat) (o : Obj) :
    Inv R N env a { E with w := E.w.alloc o, own := fun k t => E.own k t ∨ (k = E.w.heap.size ∧ t = τ) } ∧ Ext E { E with w := E.w.alloc o, own := fun k t => E.own k t ∨ (k = E.w.heap.size ∧ t = τ) } := by
  refine h.takeLab τ h.below.size (by rw [size_alloc]; omega) (fun o hs => ?_) (fun t ht => ?_) (fun c hc => ?_) (fun t ht => ?_) (by rw [size_alloc]; omega) rfl rfl rfl fun b hb hlt => heap_alloc_old _ _ _ hlt
  · have := h.Slt _ o hs; omega
  · have := (h.ownlt _ t ht).2; omega
  · obtain ⟨_, _, _, _, _, _, _, hh, _⟩ := h.locc c _ hc
    have := lt_of_heap hh
    omega
  · have := (h.mlocc t _ ht).2.1; omega

/-- What has a label is written; it gets a new label. -/
theorem Inv.setLab (h : Inv R N env a E) {τ : List Nat} (τ' : List Nat) {g : Nat} {w' : World} (hown : E.own g τ) (hgS : ∀ o, ¬ E.S g o) (hsz : w'.heap.size = E.w.heap.size) (hos : w'.os = E.w.os) (htape : w'.tape = E.w.tape) (hout : w'.output = E.w.output)
    (hoth : ∀ b, b ≠ g → w'.heap[b]? = E.w.heap[b]?) :
    Inv R N (env.strip τ) a { E.unown τ with w := w', own := fun k t => (E.unown τ).own k t ∨ (k = g ∧ t = τ') } ∧ Ext (E.unown τ) { E.unown τ with w := w', own := fun k t => (E.unown τ).own k t ∨ (k = g ∧ t = τ') } := by
  obtain ⟨h1, h2⟩ := h.ownlt g τ hown
  exact (h.unownT τ).takeLab τ' h1 (by omega) hgS (fun t ht => ht.2 (h.own1 g t τ ht.1 hown)) (fun c hc => (h.locc c g hc).2.2.1 τ hown) (fun t ht => (h.mlocc t g ht).2.2.2.1 τ hown) (Nat.le_of_eq hsz.symm) hos htape hout fun b hb _ => hoth b hb

end
end Go.Proofs.Ytmjmfollimaleaa.VL
