/- The value logic, part 15: operations that may come in either order. -/
import Derived.Test.YtmjmfollimaleaaVL14
set_option linter.unusedVariables false
set_option linter.unusedSimpArgs false
namespace Go.Proofs.Ytmjmfollimaleaa.VL
open Go.RowKit

def opnds : AOp → List Operand
  | .mov x | .box x | .nilchk x | .eqn _ x | .eqp _ x | .un _ x | .cint _ x | .cid x | .mkif _ x | .faddr _ _ x | .fld _ _ _ x | .ext x _ | .lens x | .lenl x | .load _ _ x | .loadc _ _ x | .tas _ _ x | .b2s x | .i2s x | .eqs _ x | .clr _ x => [x]
  | .pick c a b => [c, a, b]
  | .alloc _ | .bad | .mkm | .bsl0 _ => []
  | .build _ ps => ps.map fun p => p.2.2
  | .bslice _ _ ps => ps
  | .mks _ _ _ _ a x | .mkf _ _ _ _ a x | .lkp _ _ _ a x | .iadra _ _ a x | .idxa _ _ _ a x => [a, x]
  | .mko _ _ x => [x]
  | .store _ a x | .bin _ _ a x | .eqb _ _ a x | .eqa _ _ a x | .eqi _ a x | .iaddr _ a x | .idxs a x | .app _ _ _ a x => [a, x]
  | .mkfn _ a b => a ++ b
  | .slc _ x lo hi | .slcs x lo hi => [x] ++ lo.toList ++ hi.toList
  | .mnmx _ l => l
  | .mup _ m k x => [m, k, x]
  | .call _ l => l
  | .callv f l => f :: l
  | .callm _ l => l
  | .callvm f l => f :: l

def opSlots (l : List Operand) : List Nat := l.filterMap fun | .tmp t => some t | _ => none

def AOper.reads (o : AOper) : List Nat := opSlots (opnds o.op) ++ (match o.guard with | some (s, _) => [s] | none => [])

inductive Cls where
  | n | v | a | w | p | x
  deriving DecidableEq

/-- A package-level error is read from wherever: no store of the call's turns it. -/
def loadCls : Operand → Cls
  | .global _ => .n
  | _ => .v
@[simp] theorem loadCls_a (p : Operand) : ¬ loadCls p = .a := by cases p <;> simp [loadCls]
@[simp] theorem loadCls_w (p : Operand) : ¬ loadCls p = .w := by cases p <;> simp [loadCls]
@[simp] theorem loadCls_p (p : Operand) : ¬ loadCls p = .p := by cases p <;> simp [loadCls]
@[simp] theorem loadCls_x (p : Operand) : ¬ loadCls p = .x := by cases p <;> simp [loadCls]

def AOper.cls (o : AOper) : Cls :=
  match o.op with
  | .load _ _ p | .loadc _ _ p => loadCls p
  | .call .. | .callv .. | .b2s _ => .v
  | .alloc _ | .box _ => if o.dst.isSome then if o.guard.isNone then .a else .x else .x
  | .store .. => if o.guard.isNone then .w else .x
  | .app .. => if o.dst.isSome then if o.guard.isNone then .p else .x else .x
  | .bad | .callm .. | .callvm .. | .mks .. | .mko .. | .bsl0 _ | .mup .. | .clr .. => .x
  | .bslice .. | .mkf .. | .mkm => if o.dst.isSome then .n else .x
  | _ => .n

/-- What an append may change its place with. -/
def okOp : AOp → Bool
  | .mov _ | .loadc .. | .bslice .. | .faddr .. | .iaddr .. | .lenl _ | .lens _ | .bin .. | .cint .. | .fld .. | .ext .. | .un .. | .pick .. | .slc .. => true
  | _ => false

def okPair (o p : AOper) : Bool := o.guard.isNone && o.dst.isSome && okOp o.op && (match o.op, p.op with
  | .bslice .., .app _ _ bs _ _ => (match o.dst with
    | some d => bs.contains d
    | none => false)
  | .bslice .., _ => false
  | _, _ => true)

def okAl (o : AOper) : Bool := match o.op with
  | .alloc z => tokFreeL z
  | _ => false

/-- May 'o' come ahead of 'p', which stands ahead of it in the text? -/
def comm (p o : AOper) : Bool :=
  (match p.dst with | some d => !o.reads.contains d && o.dst != some d | none => true) &&
  (match o.dst with | some d => !p.reads.contains d | none => true) &&
  (match p.cls, o.cls with
    | .n, .n | .n, .v | .v, .n | .v, .v | .n, .a | .v, .a | .a, .n | .a, .a | .n, .w | .w, .n => true
    | .p, .n | .p, .v => okPair o p
    | .n, .p | .v, .p => okPair p o
    | .p, .a => okAl o
    | .a, .p => okAl p
    | _, _ => false)

/-- What a value hangs on. -/
def rel (P : Program) (op : AOp) (d : Nat) (E : Env) (x : AV) : Prop :=
  match op with
  | .call f args => ∃ as r, mapO (lower E.c 8) (args.map E.ev) = some as ∧ AC P f as r ∧ x = retag d r
  | .callv y args => ∃ f fst caps, E.ev y = .clo (.func f) fst caps ∧ ∃ as r, mapO (lower E.c 8) (fst ++ args.map E.ev ++ caps) = some as ∧ AC P f as r ∧ x = retag d r
  | .bslice _ esz parts => ∃ rows, rowsOf esz (parts.map E.ev) = some rows ∧ x = .sl (.own [d]) esz rows
  | .mkf b esz bytes z l c => mkfV b esz bytes d z (E.ev l) (E.ev c) = some x
  | .mkm => x = .mf [d] true
  | .load agg size p => (∃ g, E.ev p = .gp g ∧ agg = false ∧ g ∈ GS ∧ x = .gl g) ∨ ((∀ g, E.ev p ≠ .gp g) ∧ aval E (.load agg size p) = some x)
  | .loadc agg size p => (∃ g, E.ev p = .gp g ∧ agg = false ∧ g ∈ GS ∧ x = .gl g) ∨ ((∀ g, E.ev p ≠ .gp g) ∧ aval E (.loadc agg size p) = some x)
  | op => aval E op = some x

theorem awOp_val {P : Program} {o : AOper} (h : o.cls = .n ∨ o.cls = .v) {E : Env} {K : Env → Prop} : awOp P o E K ↔ ∃ x, rel P o.op (o.dst.getD 0) E x ∧ K (E.putO o.dst x) := by
  obtain ⟨dst, op, g⟩ := o
  have plainCase : plain op = true → (∀ f l, op ≠ .call f l) → (∀ f l, op ≠ .callv f l) → ((∃ E', step dst op E = some E' ∧ K E') ↔ ∃ x, aval E op = some x ∧ K (E.putO dst x)) := by
    intro hp _ _
    rw [step_plain hp]
    constructor
    · rintro ⟨E', hs, hk⟩
      split at hs
      · rename_i x hx
        injection hs with hs
        subst hs
        exact ⟨x, hx, hk⟩
      · cases hs
    · rintro ⟨x, hx, hk⟩
      exact ⟨_, by rw [hx], hk⟩
  cases op with
  | call f args =>
    simp only [awOp, rel]
    constructor
    · rintro ⟨as, r, h1, h2, h3⟩; exact ⟨_, ⟨as, r, h1, h2, rfl⟩, h3⟩
    · rintro ⟨_, ⟨as, r, h1, h2, rfl⟩, h3⟩; exact ⟨as, r, h1, h2, h3⟩
  | callv f args =>
    simp only [awOp, rel]
    constructor
    · rintro ⟨f, a, b, h0, as, r, h1, h2, h3⟩; exact ⟨_, ⟨f, a, b, h0, as, r, h1, h2, rfl⟩, h3⟩
    · rintro ⟨_, ⟨f, a, b, h0, as, r, h1, h2, rfl⟩, h3⟩; exact ⟨f, a, b, h0, as, r, h1, h2, h3⟩
  | bslice n esz parts =>
    cases dst with
    | none => rcases h with h | h <;> simp [AOper.cls] at h
    | some d =>
      simp only [awOp, rel, step, stepBslice]
      constructor
      · rintro ⟨E', hs, hk⟩
        split at hs
        · rename_i rows hrows
          injection hs with hs
          subst hs
          exact ⟨_, ⟨rows, hrows, rfl⟩, hk⟩
        · cases hs
      · rintro ⟨_, ⟨rows, hrows, rfl⟩, hk⟩
        exact ⟨_, by rw [hrows]; rfl, hk⟩
  | mkf b esz bytes z l c =>
    cases dst with
    | none => rcases h with h | h <;> simp [AOper.cls] at h
    | some d =>
      simp only [awOp, rel, step, stepMkf]
      constructor
      · rintro ⟨E', hs, hk⟩
        split at hs
        · rename_i x hx
          injection hs with hs
          subst hs
          exact ⟨x, hx, hk⟩
        · cases hs
      · rintro ⟨x, hx, hk⟩
        have hx' : mkfV b esz bytes d z (E.ev l) (E.ev c) = some x := hx
        exact ⟨_, by rw [hx']; rfl, hk⟩
  | mkm =>
    cases dst with
    | none => rcases h with h | h <;> simp [AOper.cls] at h
    | some d =>
      simp only [awOp, rel, step]
      constructor
      · rintro ⟨E', hs, hk⟩
        injection hs with hs
        subst hs
        exact ⟨_, rfl, hk⟩
      · rintro ⟨_, rfl, hk⟩
        exact ⟨_, rfl, hk⟩
  | load agg size p =>
    simp only [awOp, rel, step]
    constructor
    · rintro ⟨E', hs, hk⟩
      split at hs
      · rename_i g hg
        split at hs
        · rename_i ha
          split at hs
          · rename_i hgs
            injection hs with hs
            subst hs
            exact ⟨_, .inl ⟨g, hg, ha, hgs, rfl⟩, hk⟩
          · cases hs
        · cases hs
      · rename_i hne
        split at hs
        · rename_i x hx
          injection hs with hs
          subst hs
          exact ⟨x, .inr ⟨fun g hg => hne g hg, hx⟩, hk⟩
        · cases hs
    · rintro ⟨x, hx, hk⟩
      rcases hx with ⟨g, hg, ha, hgs, rfl⟩ | ⟨hne, hx⟩
      · exact ⟨_, by rw [hg]; simp only [ha, if_true, if_pos hgs], hk⟩
      · refine ⟨E.putO dst x, ?_, hk⟩
        split
        · rename_i g hg; exact absurd hg (hne g)
        · rw [hx]
  | loadc agg size p =>
    simp only [awOp, rel, step]
    constructor
    · rintro ⟨E', hs, hk⟩
      split at hs
      · rename_i g hg
        split at hs
        · rename_i ha
          split at hs
          · rename_i hgs
            injection hs with hs
            subst hs
            exact ⟨_, .inl ⟨g, hg, ha, hgs, rfl⟩, hk⟩
          · cases hs
        · cases hs
      · rename_i hne
        split at hs
        · rename_i x hx
          injection hs with hs
          subst hs
          exact ⟨x, .inr ⟨fun g hg => hne g hg, hx⟩, hk⟩
        · cases hs
    · rintro ⟨x, hx, hk⟩
      rcases hx with ⟨g, hg, ha, hgs, rfl⟩ | ⟨hne, hx⟩
      · exact ⟨_, by rw [hg]; simp only [ha, if_true, if_pos hgs], hk⟩
      · refine ⟨E.putO dst x, ?_, hk⟩
        split
        · rename_i g hg; exact absurd hg (hne g)
        · rw [hx]
  | alloc z => cases dst <;> cases g <;> simp [AOper.cls] at h
  | box z => cases dst <;> cases g <;> simp [AOper.cls] at h
  | store s p q => rcases h with h | h <;> simp [AOper.cls] at h <;> split at h <;> simp_all
  | app s p q r t => cases dst <;> cases g <;> simp [AOper.cls] at h
  | bad => rcases h with h | h <;> simp [AOper.cls] at h
  | mks s p q r t u => rcases h with h | h <;> simp [AOper.cls] at h
  | mko s p q => rcases h with h | h <;> simp [AOper.cls] at h
  | callm s p => rcases h with h | h <;> simp [AOper.cls] at h
  | callvm s p => rcases h with h | h <;> simp [AOper.cls] at h
  | bsl0 s => rcases h with h | h <;> simp [AOper.cls] at h
  | mup s p q r => rcases h with h | h <;> simp [AOper.cls] at h
  | clr s p => rcases h with h | h <;> simp [AOper.cls] at h
  | _ => exact plainCase rfl (by simp) (by simp)

theorem ev_congr {E E' : Env} {l : List Operand} (h : ∀ k ∈ opSlots l, E'.s k = E.s k) : ∀ x ∈ l, E'.ev x = E.ev x := by
  intro x hx
  cases x with
  | tmp t => exact h t (List.mem_filterMap.2 ⟨.tmp t, hx, rfl⟩)
  | _ => rfl

theorem map_ev_congr {E E' : Env} {l : List Operand} (h : ∀ x ∈ l, E'.ev x = E.ev x) : l.map E'.ev = l.map E.ev := List.map_congr_left h

theorem bnd_congr {E E' : Env} {d : Nat} {x : Option Operand} (h : ∀ y ∈ x.toList, E'.ev y = E.ev y) : aval.bnd E' d x = aval.bnd E d x := by
  cases x with
  | none => rfl
  | some y => simp only [aval.bnd]; rw [h y (by simp)]

theorem mapO_mono {α β : Type} {f g : α → Option β} (h : ∀ x y, f x = some y → g x = some y) : ∀ {l : List α} {r : List β}, mapO f l = some r → mapO g l = some r
  | [], r, hl => hl
  | x :: l, r, hl => by
    simp only [mapO] at hl ⊢
    split at hl
    case h_2 => cases hl
    rename_i y hy
    split at hl
    case h_2 => cases hl
    rename_i ys hys
    rw [h x y hy]
    simp only
    rw [mapO_mono h hys]
    exact hl

theorem lower_mono {C C' : Nat → Option (List AV)} (h : ∀ k v, C k = some v → C' k = some v) : ∀ (n : Nat) (x y : AV), lower C n x = some y → lower C' n x = some y
  | 0, x, y, hl => by simp [lower, lowerM] at hl
  | n + 1, x, y, hl => by
    have ih : ∀ x y, lowerM [] C n x = some y → lowerM [] C' n x = some y := lower_mono h n
    simp only [lower] at hl ⊢
    cases x with
    | agg cs =>
      simp only [lowerM] at hl ⊢
      split at hl
      · rename_i l hml; rw [mapO_mono ih hml]; exact hl
      · cases hl
    | lp c o =>
      simp only [lowerM, lentAs] at hl ⊢
      split at hl
      · rename_i cs hcs
        rw [h _ _ hcs]
        simp only
        split at hl
        · rename_i l hml; rw [mapO_mono ih hml]; exact hl
        · cases hl
      · cases hl
    | clo f a b =>
      simp only [lowerM] at hl ⊢
      split at hl
      · rename_i l hml
        rw [mapO_mono ih hml]
        simp only
        split at hl
        · rename_i m hmm; rw [mapO_mono ih hmm]; exact hl
        · cases hl
      · cases hl
    | ifc t v =>
      simp only [lowerM] at hl ⊢
      split at hl
      · rename_i u hu; rw [ih _ _ hu]; exact hl
      · cases hl
    | ml c o len cap g e =>
      simp only [lowerM, lentAs] at hl ⊢
      split at hl
      · rename_i cs hcs
        rw [h _ _ hcs]
        exact hl
      · cases hl
    | _ => exact hl

/-- A value hangs on what it reads; more cells do no harm. -/
theorem rel_mono {P : Program} {op : AOp} {d : Nat} {E E' : Env} {x : AV} (hs : ∀ k ∈ opSlots (opnds op), E'.s k = E.s k) (hc : ∀ k v, E.c k = some v → E'.c k = some v) (h : rel P op d E x) : rel P op d E' x := by
  have hev := ev_congr hs
  cases op with
  | call f args =>
    simp only [rel, opnds] at *
    obtain ⟨as, r, h1, h2, h3⟩ := h
    exact ⟨as, r, by rw [map_ev_congr hev]; exact mapO_mono (lower_mono hc 8) h1, h2, h3⟩
  | callv f args =>
    simp only [rel, opnds] at *
    obtain ⟨f', a, b, h0, as, r, h1, h2, h3⟩ := h
    refine ⟨f', a, b, by rw [hev f (by simp)]; exact h0, as, r, ?_, h2, h3⟩
    rw [map_ev_congr fun y hy => hev y (by simp [hy])]
    exact mapO_mono (lower_mono hc 8) h1
  | bslice n esz parts =>
    simp only [rel, opnds] at *
    obtain ⟨rows, h1, h2⟩ := h
    exact ⟨rows, by rw [map_ev_congr hev]; exact h1, h2⟩
  | load agg size p =>
    simp only [rel, opnds] at *
    have hp := hev p (by simp)
    rw [hp]
    rcases h with h | ⟨h1, h2⟩
    · exact .inl h
    · refine .inr ⟨h1, ?_⟩
      simp only [aval] at h2 ⊢
      rw [hp]
      split at h2
      · exact h2
      · exact h2
      · split at h2
        · rename_i cs hcs; rw [hc _ _ hcs]; exact h2
        · cases h2
      · cases h2
  | loadc agg size p =>
    simp only [rel, opnds] at *
    have hp := hev p (by simp)
    rw [hp]
    rcases h with h | ⟨h1, h2⟩
    · exact .inl h
    · refine .inr ⟨h1, ?_⟩
      simp only [aval] at h2 ⊢
      rw [hp]
      split at h2
      · exact h2
      · exact h2
      · split at h2
        · rename_i cs hcs; rw [hc _ _ hcs]; exact h2
        · cases h2
      · cases h2
  | build z parts =>
    simp only [rel, opnds, aval] at *
    have : (parts.map fun p => (p.1, p.2.1, E'.ev p.2.2)) = parts.map fun p => (p.1, p.2.1, E.ev p.2.2) := List.map_congr_left fun p hp => by rw [hev p.2.2 (List.mem_map.2 ⟨p, hp, rfl⟩)]
    rw [this]
    exact h
  | mkfn fn p q =>
    simp only [rel, opnds, aval] at *
    rw [map_ev_congr fun y hy => hev y (by simp [hy]), map_ev_congr fun y hy => hev y (by simp [hy])]
    exact h
  | mnmx mx l =>
    simp only [rel, opnds, aval] at *
    rw [map_ev_congr hev]
    exact h
  | slc esz y lo hi =>
    simp only [rel, opnds, aval] at *
    rw [hev y (by simp)]
    rw [show aval.bnd E' 0 lo = aval.bnd E 0 lo from bnd_congr fun z hz => hev z (by simp [hz])]
    split at h
    · rw [show ∀ n, aval.bnd E' n hi = aval.bnd E n hi from fun n => bnd_congr fun z hz => hev z (by simp [hz])]
      exact h
    · rw [show ∀ n, aval.bnd E' n hi = aval.bnd E n hi from fun n => bnd_congr fun z hz => hev z (by simp [hz])]
      exact h
    · cases h
  | slcs y lo hi =>
    simp only [rel, opnds, aval] at *
    rw [hev y (by simp)]
    rw [show aval.bnd E' 0 lo = aval.bnd E 0 lo from bnd_congr fun z hz => hev z (by simp [hz])]
    split at h
    · rw [show ∀ n, aval.bnd E' n hi = aval.bnd E n hi from fun n => bnd_congr fun z hz => hev z (by simp [hz])]
      exact h
    · cases h
  | alloc z => simp [rel, aval] at h
  | box y => simp [rel, aval] at h
  | store s p q => simp [rel, aval] at h
  | app s t p q r => simp [rel, aval] at h
  | bad => simp [rel, aval] at h
  | mks s p q r t u => simp [rel, aval] at h
  | mko s p q => simp [rel, aval] at h
  | callm s p => simp [rel, aval] at h
  | callvm s p => simp [rel, aval] at h
  | bsl0 s => simp [rel, aval] at h
  | mup s p q r => simp [rel, aval] at h
  | clr s p => simp [rel, aval] at h
  | mkm => exact h
  | mkf b esz bytes z l c =>
    simp only [rel, opnds] at *
    rw [hev l (by simp), hev c (by simp)]
    exact h
  | lkp s z ok p q =>
    simp only [rel, opnds, aval] at *
    rw [hev p (by simp), hev q (by simp)]
    exact h
  | i2s p => simp only [rel, opnds, aval] at *; rw [hev p (by simp)]; exact h
  | eqs o p => simp only [rel, opnds, aval] at *; rw [hev p (by simp)]; exact h
  | pick c p q =>
    simp only [rel, opnds, aval] at *
    rw [hev c (by simp), hev p (by simp), hev q (by simp)]
    exact h
  | bin o t p q =>
    simp only [rel, opnds, aval] at *
    rw [hev p (by simp), hev q (by simp)]
    exact h
  | eqb o t p q =>
    simp only [rel, opnds, aval] at *
    rw [hev p (by simp), hev q (by simp)]
    exact h
  | eqa o t p q =>
    simp only [rel, opnds, aval] at *
    rw [hev p (by simp), hev q (by simp)]
    exact h
  | eqi o p q =>
    simp only [rel, opnds, aval] at *
    rw [hev p (by simp), hev q (by simp)]
    exact h
  | tas o t p => simp only [rel, opnds, aval] at *; rw [hev p (by simp)]; exact h
  | b2s p =>
    simp only [rel, opnds, aval] at *
    rw [hev p (by simp)]
    split at h
    · exact h
    · split at h
      · rename_i he1
        split at h
        · rename_i cs hcs; rw [if_pos he1, hc _ _ hcs]; exact h
        · cases h
      · cases h
    · cases h
  | iaddr o p q =>
    simp only [rel, opnds, aval] at *
    rw [hev p (by simp), hev q (by simp)]
    exact h
  | iadra n e p q =>
    simp only [rel, opnds, aval] at *
    rw [hev p (by simp), hev q (by simp)]
    exact h
  | idxa b n e p q =>
    simp only [rel, opnds, aval] at *
    rw [hev p (by simp), hev q (by simp)]
    exact h
  | idxs p q =>
    simp only [rel, opnds, aval] at *
    rw [hev p (by simp), hev q (by simp)]
    exact h
  | mov p => simp only [rel, opnds, aval] at *; rw [hev p (by simp)]; exact h
  | nilchk p => simp only [rel, opnds, aval] at *; rw [hev p (by simp)]; exact h
  | eqn o p => simp only [rel, opnds, aval] at *; rw [hev p (by simp)]; exact h
  | eqp o p => simp only [rel, opnds, aval] at *; rw [hev p (by simp)]; exact h
  | un o p => simp only [rel, opnds, aval] at *; rw [hev p (by simp)]; exact h
  | cint o p => simp only [rel, opnds, aval] at *; rw [hev p (by simp)]; exact h
  | cid p => simp only [rel, opnds, aval] at *; rw [hev p (by simp)]; exact h
  | mkif o p => simp only [rel, opnds, aval] at *; rw [hev p (by simp)]; exact h
  | faddr o t p => simp only [rel, opnds, aval] at *; rw [hev p (by simp)]; exact h
  | fld o t u p => simp only [rel, opnds, aval] at *; rw [hev p (by simp)]; exact h
  | ext p o => simp only [rel, opnds, aval] at *; rw [hev p (by simp)]; exact h
  | lens p => simp only [rel, opnds, aval] at *; rw [hev p (by simp)]; exact h
  | lenl p => simp only [rel, opnds, aval] at *; rw [hev p (by simp)]; exact h

/-- Without a look at the cells. -/
theorem rel_n {P : Program} {o : AOper} (ho : o.cls = .n) {d : Nat} {E E' : Env} {x : AV} (hs : ∀ k ∈ opSlots (opnds o.op), E'.s k = E.s k) (h : rel P o.op d E x) : rel P o.op d E' x := by
  have h1 : rel P o.op d ⟨E.s, fun _ => none⟩ x := by
    obtain ⟨dst, op, g⟩ := o
    have gl : ∀ {agg : Bool} {size : Nat} {y : Operand} {g' : Nat}, y = .global g' → (∃ g, E.ev y = .gp g ∧ agg = false ∧ g ∈ GS ∧ x = .gl g) ∨ ((∀ g, E.ev y ≠ .gp g) ∧ aval E (.load agg size y) = some x) →
        ∃ g, (⟨E.s, fun _ => none⟩ : Env).ev y = .gp g ∧ agg = false ∧ g ∈ GS ∧ x = .gl g := by
      rintro agg size y g' rfl (⟨g, e, h1⟩ | ⟨h1, _⟩)
      · exact ⟨g, e, h1⟩
      · exact absurd rfl (h1 g')
    have glc : ∀ {agg : Bool} {size : Nat} {y : Operand} {g' : Nat}, y = .global g' → (∃ g, E.ev y = .gp g ∧ agg = false ∧ g ∈ GS ∧ x = .gl g) ∨ ((∀ g, E.ev y ≠ .gp g) ∧ aval E (.loadc agg size y) = some x) →
        ∃ g, (⟨E.s, fun _ => none⟩ : Env).ev y = .gp g ∧ agg = false ∧ g ∈ GS ∧ x = .gl g := by
      rintro agg size y g' rfl (⟨g, e, h1⟩ | ⟨h1, _⟩)
      · exact ⟨g, e, h1⟩
      · exact absurd rfl (h1 g')
    cases op with
    | load agg size y =>
      cases y with
      | global g' => exact .inl (gl rfl h)
      | _ => simp [AOper.cls, loadCls] at ho
    | loadc agg size y =>
      cases y with
      | global g' => exact .inl (glc rfl h)
      | _ => simp [AOper.cls, loadCls] at ho
    | _ => first
      | exact h
      | (simp [AOper.cls] at ho; done)
      | (simp [AOper.cls] at ho; split at ho <;> simp_all; done)
  exact rel_mono (E := ⟨E.s, fun _ => none⟩) hs (by simp) h1

/-! ### What an owner's mark struck does to values -/
mutual
theorem strip_free (τ : List Nat) : ∀ {x : AV}, tokFree x = true → strip τ x = x
  | .sl t e r, h => by cases t <;> simp [tokFree] at h <;> rfl
  | .agg cs, h => by simp only [tokFree] at h; simp only [strip, stripL_free τ h]
  | .tup cs, h => by simp only [tokFree] at h; simp only [strip, stripL_free τ h]
  | .clo f a b, h => by simp only [tokFree, Bool.and_eq_true] at h; simp only [strip, stripL_free τ h.1, stripL_free τ h.2]
  | .ifc t v, h => by simp only [tokFree] at h; simp only [strip, strip_free τ h]
  | .mu t k v, h => rfl
  | .mf t al, h => by simp [tokFree] at h
  | .lit _, _ | .rp _, _ | .bp _, _ | .lp _ _, _ | .ml .., _ | .mp _ _, _ | .gl _, _ | .gp _, _ | .dead, _ => rfl
theorem stripL_free (τ : List Nat) : ∀ {xs : List AV}, tokFreeL xs = true → stripL τ xs = xs
  | [], _ => rfl
  | x :: xs, h => by
    simp only [tokFreeL, Bool.and_eq_true] at h
    simp only [stripL, strip_free τ h.1, stripL_free τ h.2]
end

theorem stripL_map (τ : List Nat) : ∀ xs : List AV, stripL τ xs = xs.map (strip τ)
  | [] => rfl
  | x :: xs => by simp only [stripL, List.map_cons, stripL_map τ xs]

theorem strip_ofVal1 (τ : List Nat) (v : Value) : strip τ (ofVal1 v) = ofVal1 v := by
  unfold ofVal1
  split <;> rfl

theorem strip_ofVal (τ : List Nat) (v : Value) : strip τ (ofVal v) = ofVal v := by
  unfold ofVal
  split
  · rfl
  · simp only [strip, stripL_map, List.map_map]
    congr 1
    exact List.map_congr_left fun x _ => strip_ofVal1 τ x
  · rfl

theorem strip_ev (E : Env) (τ : List Nat) (x : Operand) : (E.strip τ).ev x = strip τ (E.ev x) := by
  cases x with
  | tmp t => rfl
  | const v => exact (strip_ofVal τ v).symm
  | global g => rfl
  | func f => rfl

def stripTok (τ : List Nat) : Tok → Tok
  | .own t => if t = τ then .none else .own t
  | .fr t => if t = τ then .gone else .fr t
  | t => t
theorem frB_strip (τ : List Nat) (t : Tok) : frB (stripTok τ t) = frB t := by
  cases t with
  | own t => simp only [stripTok]; split <;> rfl
  | fr t => simp only [stripTok]; split <;> rfl
  | _ => rfl

theorem strip_sl (τ : List Nat) (t : Tok) (e : Nat) (r : List AV) : strip τ (.sl t e r) = .sl (stripTok τ t) e r := by
  cases t with
  | own t => simp only [strip, stripTok]; split <;> rfl
  | fr t => simp only [strip, stripTok]; split <;> rfl
  | _ => rfl

theorem strip_lit_iff {τ : List Nat} {x : AV} {v : Value} : strip τ x = .lit v ↔ x = .lit v := by
  cases x with
  | sl t e r => cases t <;> simp only [strip] <;> (try split) <;> simp
  | _ => simp [strip]

theorem ld_strip (τ : List Nat) (agg : Bool) (size : Nat) (cs : List AV) : aval.ld agg size (stripL τ cs) = (aval.ld agg size cs).map (strip τ) := by
  rw [stripL_map]
  cases agg with
  | true =>
    simp only [aval.ld, List.length_map]
    split
    · simp only [Option.map_some, strip, stripL_map, List.map_take]
    · rfl
  | false => simp only [aval.ld, List.getElem?_map]

theorem chkTok_strip (τ : List Nat) (x : Option AV) : chkTok x = (chkTok x).map (strip τ) := by
  unfold chkTok
  split
  · split
    · rename_i h
      simp only [Option.map_some, strip_free τ h]
    · rfl
  · rfl

mutual
theorem plain_strip (τ : List Nat) : ∀ x : AV, plainV (strip τ x) = plainV x
  | .sl t e r => by
    cases t with
    | own t => simp only [strip]; split <;> rfl
    | fr t => simp only [strip]; split <;> rfl
    | _ => rfl
  | .agg cs => by simp only [strip, plainV, plainL_strip τ cs]
  | .tup cs => by simp only [strip, plainV, plainL_strip τ cs]
  | .clo f a b => by simp only [strip, plainV, plainL_strip τ a, plainL_strip τ b]
  | .ifc t v => by simp only [strip, plainV, plain_strip τ v]
  | .lit _ | .rp _ | .bp _ | .lp _ _ | .ml .. | .mp _ _ | .gl _ | .gp _ | .dead | .mu _ _ _ | .mf _ _ => rfl
theorem plainL_strip (τ : List Nat) : ∀ xs : List AV, plainL (stripL τ xs) = plainL xs
  | [] => rfl
  | x :: xs => by simp only [stripL, plainL, plain_strip τ x, plainL_strip τ xs]
end
mutual
theorem unown_strip (τ : List Nat) : ∀ {x : AV}, plainV x = true → unownV (strip τ x) = unownV x
  | .sl t e r, h => by
    cases t with
    | own t => simp only [strip]; split <;> rfl
    | fr t => simp [plainV] at h
    | _ => rfl
  | .agg cs, h => by simp only [plainV] at h; simp only [strip, unownV, unownL_strip τ h]
  | .tup cs, h => by simp only [plainV] at h; simp only [strip, unownV, unownL_strip τ h]
  | .clo f a b, h => by simp only [plainV, Bool.and_eq_true] at h; simp only [strip, unownV, unownL_strip τ h.1, unownL_strip τ h.2]
  | .ifc t v, h => by simp only [plainV] at h; simp only [strip, unownV, unown_strip τ h]
  | .mu _ _ _, h | .mf _ _, h | .bp _, h | .lp _ _, h | .ml .., h => by simp [plainV] at h
  | .lit _, _ | .rp _, _ | .mp _ _, _ | .gl _, _ | .gp _, _ | .dead, _ => rfl
theorem unownL_strip (τ : List Nat) : ∀ {xs : List AV}, plainL xs = true → unownL (stripL τ xs) = unownL xs
  | [], _ => rfl
  | x :: xs, h => by simp only [plainL, Bool.and_eq_true] at h; simp only [stripL, unownL, unown_strip τ h.1, unownL_strip τ h.2]
end
theorem closeClo_strip (τ : List Nat) (f : Fn) (a b : List AV) : (if plainL (stripL τ a) && plainL (stripL τ b) then some (AV.clo f (unownL (stripL τ a)) (unownL (stripL τ b))) else none) = if plainL a && plainL b then some (AV.clo f (unownL a) (unownL b)) else none := by
  rw [plainL_strip, plainL_strip]
  split
  · rename_i h
    simp only [Bool.and_eq_true] at h
    rw [unownL_strip τ h.1, unownL_strip τ h.2]
  · rfl

theorem closeV1_strip (τ : List Nat) (x : AV) : closeV.closeV1 (strip τ x) = closeV.closeV1 x := by
  cases x with
  | sl t e r =>
    cases t with
    | own t => simp only [strip]; split <;> rfl
    | fr t => simp only [strip]; split <;> rfl
    | _ => rfl
  | ifc t v =>
    cases v with
    | sl q e r =>
      cases q with
      | own q => simp only [strip]; split <;> rfl
      | fr q => simp only [strip]; split <;> rfl
      | _ => rfl
    | _ => rfl
  | clo f a b => exact closeClo_strip τ f a b
  | _ => rfl

theorem mapM_close_strip (τ : List Nat) : ∀ cs : List AV, (stripL τ cs).mapM closeV.closeV1 = cs.mapM closeV.closeV1
  | [] => rfl
  | x :: xs => by rw [stripL, List.mapM_cons, List.mapM_cons, closeV1_strip, mapM_close_strip τ xs]

theorem closeV_strip (τ : List Nat) (x : AV) : closeV (strip τ x) = closeV x := by
  cases x with
  | sl t e r =>
    cases t with
    | own t => simp only [strip]; split <;> rfl
    | fr t => simp only [strip]; split <;> rfl
    | _ => rfl
  | agg cs => simp only [strip, closeV, mapM_close_strip]
  | ifc t v => simp only [strip, closeV, closeV1_strip]
  | clo f a b => exact closeClo_strip τ f a b
  | _ => rfl

theorem rowsOf_strip (τ : List Nat) (esz : Nat) : ∀ xs : List AV, rowsOf esz (xs.map (strip τ)) = rowsOf esz xs
  | [] => rfl
  | x :: xs => by simp only [List.map_cons, rowsOf, closeV_strip, rowsOf_strip τ esz xs]

theorem intOf_strip (τ : List Nat) (x : AV) : intOfA (strip τ x) = intOfA x := by
  cases x with
  | sl t e r =>
    cases t with
    | own t => simp only [strip]; split <;> rfl
    | fr t => simp only [strip]; split <;> rfl
    | _ => rfl
  | _ => rfl

theorem bnd_strip (τ : List Nat) (E : Env) (d : Nat) (x : Option Operand) : aval.bnd (E.strip τ) d x = aval.bnd E d x := by
  cases x with
  | none => rfl
  | some y => simp only [aval.bnd, strip_ev, intOf_strip]

theorem aval_strip (τ : List Nat) (E : Env) {op : AOp} (h : okOp op = true) : aval (E.strip τ) op = (aval E op).map (strip τ) := by
  cases op with
  | mov x => simp only [aval, strip_ev, Option.map_some]
  | pick c a b =>
    simp only [aval, strip_ev]
    cases E.ev c with
    | sl t e r => rw [strip_sl]; rfl
    | lit v => cases v with
      | bool t => cases t <;> rfl
      | _ => rfl
    | _ => rfl
  | loadc agg size p =>
    simp only [aval, strip_ev]
    cases E.ev p with
    | sl t e r => rw [strip_sl]; rfl
    | rp cs => exact chkTok_strip τ _
    | bp cs => exact chkTok_strip τ _
    | lp c o =>
      simp only [strip, Env.strip]
      cases E.c c with
      | none => rfl
      | some cs =>
        simp only [Option.map_some]
        rw [show (stripL τ cs).drop o = stripL τ (cs.drop o) by rw [stripL_map, stripL_map, List.map_drop]]
        exact ld_strip τ agg size _
    | _ => rfl
  | bslice n e p => simp only [aval, Option.map_none]
  | faddr o n x =>
    simp only [aval, strip_ev]
    cases E.ev x with
    | sl t e r => rw [strip_sl]; rfl
    | rp cs => simp only [strip]; split <;> rfl
    | bp cs => simp only [strip]; split <;> rfl
    | _ => rfl
  | iaddr esz x i =>
    simp only [aval, strip_ev]
    cases E.ev x with
    | sl t e r =>
      rw [strip_sl]
      have ht : frB t = false → ∀ x : AV, (match stripTok τ t with | .bor => AV.bp (cellsOf x) | _ => .rp (cellsOf x)) = strip τ (match t with | .bor => AV.bp (cellsOf x) | _ => .rp (cellsOf x)) := by
        intro hf x
        cases t with
        | own t => simp only [stripTok]; split <;> first | rfl | (rename_i e; split at e <;> cases e)
        | fr t => simp [frB] at hf
        | _ => rfl
      cases hi : E.ev i with
      | lit v =>
        cases v with
        | int k n =>
          simp only [strip]
          split
          · cases r[n.toNat]? with
            | none => rfl
            | some x =>
              simp only [frB_strip]
              split
              · rename_i hf
                split
                · split
                  · exact congrArg some (ht hf x)
                  · rfl
                · rfl
              · rfl
          · rfl
        | _ => rfl
      | sl t2 e2 r2 => rw [strip_sl]; rfl
      | _ => rfl
    | ml c off len cap g e =>
      cases hi : E.ev i with
      | lit v =>
        cases v with
        | int k n =>
          simp only [strip]
          split
          · split <;> rfl
          · rfl
        | _ => rfl
      | sl t2 e2 r2 => rw [strip_sl]; rfl
      | _ => rfl
    | _ => rfl
  | lenl x =>
    simp only [aval, strip_ev]
    cases E.ev x with
    | sl t e r => rw [strip_sl]; rfl
    | _ => rfl
  | lens x =>
    simp only [aval, strip_ev]
    cases E.ev x with
    | sl t e r => rw [strip_sl]; rfl
    | lit v => cases v <;> rfl
    | _ => rfl
  | bin o t x y =>
    simp only [aval, strip_ev]
    cases E.ev x with
    | sl t e r => rw [strip_sl]; rfl
    | lit u =>
      cases u with
      | int k n =>
        cases E.ev y with
        | sl t e r => rw [strip_sl]; rfl
        | lit v =>
          cases v with
          | int k' n' => simp only [strip]; split <;> rfl
          | _ => rfl
        | _ => rfl
      | string b =>
        cases E.ev y with
        | sl t e r => rw [strip_sl]; rfl
        | lit v =>
          cases v with
          | string b' => simp only [strip]; split <;> rfl
          | _ => rfl
        | _ => rfl
      | _ => rfl
    | _ => rfl
  | cint k x =>
    simp only [aval, strip_ev]
    cases E.ev x with
    | sl t e r => rw [strip_sl]; rfl
    | lit v => cases v <;> rfl
    | _ => rfl
  | fld agg o n x =>
    simp only [aval, strip_ev]
    cases E.ev x with
    | sl t e r => rw [strip_sl]; rfl
    | agg cs =>
      simp only [strip]
      rw [show (stripL τ cs).drop o = stripL τ (cs.drop o) by rw [stripL_map, stripL_map, List.map_drop]]
      exact ld_strip τ agg n _
    | _ => rfl
  | ext x i =>
    simp only [aval, strip_ev]
    cases E.ev x with
    | sl t e r => rw [strip_sl]; rfl
    | tup cs => simp only [strip, stripL_map, List.getElem?_map]
    | _ => rfl
  | un o x =>
    simp only [aval, strip_ev]
    cases E.ev x with
    | sl t e r => rw [strip_sl]; rfl
    | lit v => simp only [strip]; split <;> rfl
    | _ => rfl
  | slc esz x lo hi =>
    simp only [aval, strip_ev]
    cases E.ev x with
    | sl t e r =>
      rw [strip_sl]
      have ht : frB t = false → ∀ q : List AV, AV.sl (aval.cutTok (stripTok τ t)) e q = strip τ (.sl (aval.cutTok t) e q) := by
        intro hf q
        cases t with
        | own t => simp only [stripTok]; split <;> rfl
        | fr t => simp [frB] at hf
        | _ => rfl
      simp only [bnd_strip, frB_strip]
      split
      · split
        · rename_i hf
          split
          · split
            · simp only [Option.map_some, ht hf]
            · rfl
          · rfl
        · rfl
      · rfl
    | ml c off n cap g e =>
      simp only [bnd_strip, strip]
      split
      · split
        · split <;> rfl
        · rfl
      · rfl
    | _ => rfl
  | _ => simp [okOp] at h

end Go.Proofs.Ytmjmfollimaleaa.VL
