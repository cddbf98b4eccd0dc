import Derived.Test.YtnndbbmidoidpaaGreatDoorGa3
set_option linter.unusedVariables false
set_option linter.unusedSimpArgs false
section
namespace Go.Proofs.YtnndbbmidoidpaaGreatDoor.VL
open Go.RowKit
def opnds : AOp → List Operand
 | .mov x | .box x | .nilchk x | .eqn _ x | .eqp _ x | .un _ x | .cint _ x | .cid x | .mkif _ x | .faddr _ _ x | .fld _ _ _ x | .ext x _ | .lens x | .lenl x | .load _ _ x | .loadc _ _ x | .tas _ _ x | .b2s x | .i2s x | .eqs _ x | .clr _ x => [x]
 | .pick c a b => [c,a,b]
 | .alloc _ | .bad | .mkm | .bsl0 _ => []
 | .build _ ps => ps.map fun p => p.2.2
 | .bslice _ _ ps => ps
 | .mks _ _ _ _ a x | .mkf _ _ _ _ a x | .lkp _ _ _ a x | .iadra _ _ a x | .idxa _ _ _ a x => [a,x]
 | .mko _ _ x => [x]
 | .store _ a x | .bin _ _ a x | .eqb _ _ a x | .eqa _ _ a x | .eqi _ a x | .iaddr _ a x | .idxs a x | .app _ _ _ a x => [a,x]
 | .mkfn _ a b => a ++ b
 | .slc _ x lo hi | .slcs x lo hi => [x] ++ lo.toList ++ hi.toList
 | .mnmx _ l => l
 | .mup _ m k x => [m,k,x]
 | .call _ l => l
 | .callv f l => f :: l
 | .callm _ l => l
 | .callvm f l => f :: l
def opSlots (l : List Operand) : List Nat:= l.filterMap fun | .tmp t => some t | _ => none
def AOper.reads (o : AOper) : List Nat:= opSlots (opnds o.op) ++ (match o.guard with | some (s,_) => [s] | none => [])
inductive Cls where
 | n | v | a | w | p | x
 deriving DecidableEq
def loadCls : Operand → Cls
 | .global _ => .n
 | _ => .v
@[simp] theorem loadCls_a (p : Operand) : ¬ loadCls p = .a:= by cases p <;> simp [loadCls]
@[simp] theorem loadCls_w (p : Operand) : ¬ loadCls p = .w:= by cases p <;> simp [loadCls]
@[simp] theorem loadCls_p (p : Operand) : ¬ loadCls p = .p:= by cases p <;> simp [loadCls]
def AOper.cls (o : AOper) : Cls :=
 match o.op with
 | .load _ _ p | .loadc _ _ p => loadCls p
 | .call .. | .callv .. | .b2s _ => .v
 | .alloc _ | .box _ => if o.dst.isSome then if o.guard.isNone then .a else .x else .x
 | .store .. => if o.guard.isNone then .w else .x
 | .app .. => if o.dst.isSome then if o.guard.isNone then .p else .x else .x
 | .bad | .callm .. | .callvm .. | .mks .. | .mko .. | .bsl0 _ | .mup .. | .clr .. => .x
 | .bslice .. | .mkf .. | .mkm => if o.dst.isSome then .n else .x
 | _ => .n
def okOp : AOp → Bool
 | .mov _ | .nilchk _ | .loadc .. | .bslice .. | .faddr .. | .iaddr .. | .lenl _ | .lens _ | .bin .. | .cint .. | .fld .. | .ext .. | .un .. | .pick .. | .slc .. => true
 | _ => false
def okPair (o p : AOper) : Bool:= o.guard.isNone && o.dst.isSome && okOp o.op && (match o.op,p.op with
 | .bslice ..,.app _ _ bs _ _ => (match o.dst with
  | some d => bs.contains d
  | none => false)
 | .bslice ..,_ => false
 | _,_ => true)
def okAl (o : AOper) : Bool:= match o.op with
 | .alloc z => tokFreeL z
 | _ => false
def comm (p o : AOper) : Bool :=
 (match p.dst with | some d => !o.reads.contains d && o.dst != some d | none => true) &&
 (match o.dst with | some d => !p.reads.contains d | none => true) &&
 (match p.cls,o.cls with
  | .n,.n | .n,.v | .v,.n | .v,.v | .n,.a | .v,.a | .a,.n | .a,.a | .n,.w | .w,.n => true
  | .p,.n | .p,.v => okPair o p
  | .n,.p | .v,.p => okPair p o
  | .p,.a => okAl o
  | .a,.p => okAl p
  | _,_ => false)
def rel (P : Program) (op : AOp) (d : Nat) (E : Env) (x : AV) : Prop :=
  match op with
  | .call f args => ∃ as r, mapO (lower E.c 8) (args.map E.ev) = some as ∧ AC P f as r ∧ x = retag d r
  | .callv y args => ∃ f fst caps, E.ev y = .clo (.func f) fst caps ∧ ∃ as r, mapO (lower E.c 8) (fst ++ args.map E.ev ++ caps) = some as ∧ AC P f as r ∧ x = retag d r
  | .bslice _ esz parts => ∃ rows, rowsOf esz (parts.map E.ev) = some rows ∧ x = .sl (.own [d]) esz rows
  | .mkf b esz bytes z l c => mkfV b esz bytes d z (E.ev l) (E.ev c) = some x
  | .mkm => x = .mf [d] true
  | .load agg size p => (∃ g, E.ev p = .gp g ∧ agg = false ∧ g ∈ GS ∧ x = .gl g) ∨ ((∀ g, E.ev p ≠ .gp g) ∧ aval E (.load agg size p) = some x)
  | .loadc agg size p => (∃ g, E.ev p = .gp g ∧ agg = false ∧ g ∈ GS ∧ x = .gl g) ∨ ((∀ g, E.ev p ≠ .gp g) ∧ aval E (.loadc agg size p) = some x)
  | op => aval E op = some x
theorem awOp_val {P : Program} {o : AOper} (h : o.cls = .n ∨ o.cls = .v) {E : Env} {K : Env → Prop} : awOp P o E K ↔ ∃ x, rel P o.op (o.dst.getD 0) E x ∧ K (E.putO o.dst x) := by
  obtain ⟨dst, op, g⟩ := o
  have plainCase : plain op = true → (∀ f l, op ≠ .call f l) → (∀ f l, op ≠ .callv f l) → ((∃ E', step dst op E = some E' ∧ K E') ↔ ∃ x, aval E op = some x ∧ K (E.putO dst x)) := by
    intro hp _ _
    rw [step_plain hp]
    constructor
    · rintro ⟨E', hs, hk⟩
      split at hs
      · rename_i x hx
        injection hs with hs
        subst hs
        exact ⟨x, hx, hk⟩
      · cases hs
    · rintro ⟨x, hx, hk⟩
      exact ⟨_, by rw [hx], hk⟩
  cases op with
  | call f args =>
    simp only [awOp, rel]
    constructor
    · rintro ⟨as, r, h1, h2, h3⟩; exact ⟨_, ⟨as, r, h1, h2, rfl⟩, h3⟩
    · rintro ⟨_, ⟨as, r, h1, h2, rfl⟩, h3⟩; exact ⟨as, r, h1, h2, h3⟩
  | callv f args =>
    simp only [awOp, rel]
    constructor
    · rintro ⟨f, a, b, h0, as, r, h1, h2, h3⟩; exact ⟨_, ⟨f, a, b, h0, as, r, h1, h2, rfl⟩, h3⟩
    · rintro ⟨_, ⟨f, a, b, h0, as, r, h1, h2, rfl⟩, h3⟩; exact ⟨f, a, b, h0, as, r, h1, h2, h3⟩
  | bslice n esz parts =>
    cases dst with
    | none => rcases h with h | h <;> simp [AOper.cls] at h
    | some d =>
      simp only [awOp, rel, step, stepBslice]
      constructor
      · rintro ⟨E', hs, hk⟩
        split at hs
        · rename_i rows hrows
          injection hs with hs
          subst hs
          exact ⟨_, ⟨rows, hrows, rfl⟩, hk⟩
        · cases hs
      · rintro ⟨_, ⟨rows, hrows, rfl⟩, hk⟩
        exact ⟨_, by rw [hrows]; rfl, hk⟩
  | mkf b esz bytes z l c =>
    cases dst with
    | none => rcases h with h | h <;> simp [AOper.cls] at h
    | some d =>
      simp only [awOp, rel, step, stepMkf]
      constructor
      · rintro ⟨E', hs, hk⟩
        split at hs
        · rename_i x hx
          injection hs with hs
          subst hs
          exact ⟨x, hx, hk⟩
        · cases hs
      · rintro ⟨x, hx, hk⟩
        have hx' : mkfV b esz bytes d z (E.ev l) (E.ev c) = some x := hx
        exact ⟨_, by rw [hx']; rfl, hk⟩
  | mkm =>
    cases dst with
    | none => rcases h with h | h <;> simp [AOper.cls] at h
    | some d =>
      simp only [awOp, rel, step]
      constructor
      · rintro ⟨E', hs, hk⟩
        injection hs with hs
        subst hs
        exact ⟨_, rfl, hk⟩
      · rintro ⟨_, rfl, hk⟩
        exact ⟨_, rfl, hk⟩
  | load agg size p =>
    simp only [awOp, rel, step]
    constructor
    · rintro ⟨E', hs, hk⟩
      split at hs
      · rename_i g hg
        split at hs
        · rename_i ha
          split at hs
          · rename_i hgs
            injection hs with hs
            subst hs
            exact ⟨_, .inl ⟨g, hg, ha, hgs, rfl⟩, hk⟩
          · cases hs
        · cases hs
      · rename_i hne
        split at hs
        · rename_i x hx
          injection hs with hs
          subst hs
          exact ⟨x, .inr ⟨fun g hg => hne g hg, hx⟩, hk⟩
        · cases hs
    · rintro ⟨x, hx, hk⟩
      rcases hx with ⟨g, hg, ha, hgs, rfl⟩ | ⟨hne, hx⟩
      · exact ⟨_, by rw [hg]; simp only [ha, if_true, if_pos hgs], hk⟩
      · refine ⟨E.putO dst x, ?_, hk⟩
        split
        · rename_i g hg; exact absurd hg (hne g)
        · rw [hx]
  | loadc agg size p =>
    simp only [awOp, rel, step]
    constructor
    · rintro ⟨E', hs, hk⟩
      split at hs
      · rename_i g hg
        split at hs
        · rename_i ha
          split at hs
          · rename_i hgs
            injection hs with hs
            subst hs
            exact ⟨_, .inl ⟨g, hg, ha, hgs, rfl⟩, hk⟩
          · cases hs
        · cases hs
      · rename_i hne
        split at hs
        · rename_i x hx
          injection hs with hs
          subst hs
          exact ⟨x, .inr ⟨fun g hg => hne g hg, hx⟩, hk⟩
        · cases hs
    · rintro ⟨x, hx, hk⟩
      rcases hx with ⟨g, hg, ha, hgs, rfl⟩ | ⟨hne, hx⟩
      · exact ⟨_, by rw [hg]; simp only [ha, if_true, if_pos hgs], hk⟩
      · refine ⟨E.putO dst x, ?_, hk⟩
        split
        · rename_i g hg; exact absurd hg (hne g)
        · rw [hx]
  | alloc z => cases dst <;> cases g <;> simp [AOper.cls] at h
  | box z => cases dst <;> cases g <;> simp [AOper.cls] at h
  | store s p q => rcases h with h | h <;> simp [AOper.cls] at h <;> split at h <;> simp_all
  | app s p q r t => cases dst <;> cases g <;> simp [AOper.cls] at h
  | bad => rcases h with h | h <;> simp [AOper.cls] at h
  | mks s p q r t u => rcases h with h | h <;> simp [AOper.cls] at h
  | mko s p q => rcases h with h | h <;> simp [AOper.cls] at h
  | callm s p => rcases h with h | h <;> simp [AOper.cls] at h
  | callvm s p => rcases h with h | h <;> simp [AOper.cls] at h
  | bsl0 s => rcases h with h | h <;> simp [AOper.cls] at h
  | mup s p q r => rcases h with h | h <;> simp [AOper.cls] at h
  | clr s p => rcases h with h | h <;> simp [AOper.cls] at h
  | _ => exact plainCase rfl (by simp) (by simp)
theorem ev_congr {E E' : Env} {l : List Operand} (h : ∀ k ∈ opSlots l,E'.s k = E.s k) : ∀ x ∈ l,E'.ev x = E.ev x:= by
 intro x hx
 cases x with
 | tmp t => exact h t (List.mem_filterMap.2 ⟨.tmp t,hx,rfl⟩)
 | _ => rfl
theorem map_ev_congr {E E' : Env} {l : List Operand} (h : ∀ x ∈ l,E'.ev x = E.ev x) : l.map E'.ev = l.map E.ev:= List.map_congr_left h
theorem bnd_congr {E E' : Env} {d : Nat} {x : Option Operand} (h : ∀ y ∈ x.toList,E'.ev y = E.ev y) : aval.bnd E' d x = aval.bnd E d x:= by
 cases x with
 | none => rfl
 | some y => simp only [aval.bnd]; rw [h y (by simp)]
theorem mapO_mono {α β : Type} {f g : α → Option β} (h : ∀ x y,f x = some y → g x = some y) : ∀ {l : List α} {r : List β},mapO f l = some r → mapO g l = some r
 | [],r,hl => hl
 | x :: l,r,hl => by
  simp only [mapO] at hl ⊢
  split at hl
  case h_2 => cases hl
  rename_i y hy
  split at hl
  case h_2 => cases hl
  rename_i ys hys
  rw [h x y hy]
  simp only
  rw [mapO_mono h hys]
  exact hl
theorem lower_mono {C C' : Nat → Option (List AV)} (h : ∀ k v,C k = some v → C' k = some v) : ∀ (n : Nat) (x y : AV),lower C n x = some y → lower C' n x = some y
 | 0,x,y,hl => by simp [lower,lowerM] at hl
 | n + 1,x,y,hl => by
  have ih : ∀ x y,lowerM [] C n x = some y → lowerM [] C' n x = some y:= lower_mono h n
  simp only [lower] at hl ⊢
  cases x with
  | agg cs =>
   simp only [lowerM] at hl ⊢
   split at hl
   ·rename_i l hml; rw [mapO_mono ih hml]; exact hl
   ·cases hl
  | lp c o =>
   simp only [lowerM,lentAs] at hl ⊢
   split at hl
   ·rename_i cs hcs
    rw [h _ _ hcs]
    simp only
    split at hl
    ·rename_i l hml; rw [mapO_mono ih hml]; exact hl
    ·cases hl
   ·cases hl
  | clo f a b =>
   simp only [lowerM] at hl ⊢
   split at hl
   ·rename_i l hml
    rw [mapO_mono ih hml]
    simp only
    split at hl
    ·rename_i m hmm; rw [mapO_mono ih hmm]; exact hl
    ·cases hl
   ·cases hl
  | ifc t v =>
   simp only [lowerM] at hl ⊢
   split at hl
   ·rename_i u hu; rw [ih _ _ hu]; exact hl
   ·cases hl
  | ml c o len cap g e =>
   simp only [lowerM,lentAs] at hl ⊢
   split at hl
   ·rename_i cs hcs
    rw [h _ _ hcs]
    exact hl
   ·cases hl
  | _ => exact hl
theorem rel_mono {P : Program} {op : AOp} {d : Nat} {E E' : Env} {x : AV} (hs : ∀ k ∈ opSlots (opnds op), E'.s k = E.s k) (hc : ∀ k v, E.c k = some v → E'.c k = some v) (h : rel P op d E x) : rel P op d E' x := by
  have hev := ev_congr hs
  cases op with
  | call f args =>
    simp only [rel, opnds] at *
    obtain ⟨as, r, h1, h2, h3⟩ := h
    exact ⟨as, r, by rw [map_ev_congr hev]; exact mapO_mono (lower_mono hc 8) h1, h2, h3⟩
  | callv f args =>
    simp only [rel, opnds] at *
    obtain ⟨f', a, b, h0, as, r, h1, h2, h3⟩ := h
    refine ⟨f', a, b, by rw [hev f (by simp)]; exact h0, as, r, ?_, h2, h3⟩
    rw [map_ev_congr fun y hy => hev y (by simp [hy])]
    exact mapO_mono (lower_mono hc 8) h1
  | bslice n esz parts =>
    simp only [rel, opnds] at *
    obtain ⟨rows, h1, h2⟩ := h
    exact ⟨rows, by rw [map_ev_congr hev]; exact h1, h2⟩
  | load agg size p =>
    simp only [rel, opnds] at *
    have hp := hev p (by simp)
    rw [hp]
    rcases h with h | ⟨h1, h2⟩
    · exact .inl h
    · refine .inr ⟨h1, ?_⟩
      simp only [aval] at h2 ⊢
      rw [hp]
      split at h2
      · exact h2
      · exact h2
      · split at h2
        · rename_i cs hcs; rw [hc _ _ hcs]; exact h2
        · cases h2
      · cases h2
  | loadc agg size p =>
    simp only [rel, opnds] at *
    have hp := hev p (by simp)
    rw [hp]
    rcases h with h | ⟨h1, h2⟩
    · exact .inl h
    · refine .inr ⟨h1, ?_⟩
      simp only [aval] at h2 ⊢
      rw [hp]
      split at h2
      · exact h2
      · exact h2
      · split at h2
        · rename_i cs hcs; rw [hc _ _ hcs]; exact h2
        · cases h2
      · cases h2
  | build z parts =>
    simp only [rel, opnds, aval] at *
    have : (parts.map fun p => (p.1, p.2.1, E'.ev p.2.2)) = parts.map fun p => (p.1, p.2.1, E.ev p.2.2) := List.map_congr_left fun p hp => by rw [hev p.2.2 (List.mem_map.2 ⟨p, hp, rfl⟩)]
    rw [this]
    exact h
  | mkfn fn p q =>
    simp only [rel, opnds, aval] at *
    rw [map_ev_congr fun y hy => hev y (by simp [hy]), map_ev_congr fun y hy => hev y (by simp [hy])]
    exact h
  | mnmx mx l =>
    simp only [rel, opnds, aval] at *
    rw [map_ev_congr hev]
    exact h
  | slc esz y lo hi =>
    simp only [rel, opnds, aval] at *
    rw [hev y (by simp)]
    rw [show aval.bnd E' 0 lo = aval.bnd E 0 lo from bnd_congr fun z hz => hev z (by simp [hz])]
    split at h
    · rw [show ∀ n, aval.bnd E' n hi = aval.bnd E n hi from fun n => bnd_congr fun z hz => hev z (by simp [hz])]
      exact h
    · rw [show ∀ n, aval.bnd E' n hi = aval.bnd E n hi from fun n => bnd_congr fun z hz => hev z (by simp [hz])]
      exact h
    · cases h
  | slcs y lo hi =>
    simp only [rel, opnds, aval] at *
    rw [hev y (by simp)]
    rw [show aval.bnd E' 0 lo = aval.bnd E 0 lo from bnd_congr fun z hz => hev z (by simp [hz])]
    split at h
    · rw [show ∀ n, aval.bnd E' n hi = aval.bnd E n hi from fun n => bnd_congr fun z hz => hev z (by simp [hz])]
      exact h
    · cases h
  | alloc z => simp [rel, aval] at h
  | box y => simp [rel, aval] at h
  | store s p q => simp [rel, aval] at h
  | app s t p q r => simp [rel, aval] at h
  | bad => simp [rel, aval] at h
  | mks s p q r t u => simp [rel, aval] at h
  | mko s p q => simp [rel, aval] at h
  | callm s p => simp [rel, aval] at h
  | callvm s p => simp [rel, aval] at h
  | bsl0 s => simp [rel, aval] at h
  | mup s p q r => simp [rel, aval] at h
  | clr s p => simp [rel, aval] at h
  | mkm => exact h
  | mkf b esz bytes z l c =>
    simp only [rel, opnds] at *
    rw [hev l (by simp), hev c (by simp)]
    exact h
  | lkp s z ok p q =>
    simp only [rel, opnds, aval] at *
    rw [hev p (by simp), hev q (by simp)]
    exact h
  | i2s p => simp only [rel, opnds, aval] at *; rw [hev p (by simp)]; exact h
  | eqs o p => simp only [rel, opnds, aval] at *; rw [hev p (by simp)]; exact h
  | pick c p q =>
    simp only [rel, opnds, aval] at *
    rw [hev c (by simp), hev p (by simp), hev q (by simp)]
    exact h
  | bin o t p q =>
    simp only [rel, opnds, aval] at *
    rw [hev p (by simp), hev q (by simp)]
    exact h
  | eqb o t p q =>
    simp only [rel, opnds, aval] at *
    rw [hev p (by simp), hev q (by simp)]
    exact h
  | eqa o t p q =>
    simp only [rel, opnds, aval] at *
    rw [hev p (by simp), hev q (by simp)]
    exact h
  | eqi o p q =>
    simp only [rel, opnds, aval] at *
    rw [hev p (by simp), hev q (by simp)]
    exact h
  | tas o t p => simp only [rel, opnds, aval] at *; rw [hev p (by simp)]; exact h
  | b2s p =>
    simp only [rel, opnds, aval] at *
    rw [hev p (by simp)]
    split at h
    · exact h
    · split at h
      · rename_i he1
        split at h
        · rename_i cs hcs; rw [if_pos he1, hc _ _ hcs]; exact h
        · cases h
      · cases h
    · cases h
  | iaddr o p q =>
    simp only [rel, opnds, aval] at *
    rw [hev p (by simp), hev q (by simp)]
    exact h
  | iadra n e p q =>
    simp only [rel, opnds, aval] at *
    rw [hev p (by simp), hev q (by simp)]
    exact h
  | idxa b n e p q =>
    simp only [rel, opnds, aval] at *
    rw [hev p (by simp), hev q (by simp)]
    exact h
  | idxs p q =>
    simp only [rel, opnds, aval] at *
    rw [hev p (by simp), hev q (by simp)]
    exact h
  | mov p => simp only [rel, opnds, aval] at *; rw [hev p (by simp)]; exact h
  | nilchk p => simp only [rel, opnds, aval] at *; rw [hev p (by simp)]; exact h
  | eqn o p => simp only [rel, opnds, aval] at *; rw [hev p (by simp)]; exact h
  | eqp o p => simp only [rel, opnds, aval] at *; rw [hev p (by simp)]; exact h
  | un o p => simp only [rel, opnds, aval] at *; rw [hev p (by simp)]; exact h
  | cint o p => simp only [rel, opnds, aval] at *; rw [hev p (by simp)]; exact h
  | cid p => simp only [rel, opnds, aval] at *; rw [hev p (by simp)]; exact h
  | mkif o p => simp only [rel, opnds, aval] at *; rw [hev p (by simp)]; exact h
  | faddr o t p => simp only [rel, opnds, aval] at *; rw [hev p (by simp)]; exact h
  | fld o t u p => simp only [rel, opnds, aval] at *; rw [hev p (by simp)]; exact h
  | ext p o => simp only [rel, opnds, aval] at *; rw [hev p (by simp)]; exact h
  | lens p => simp only [rel, opnds, aval] at *; rw [hev p (by simp)]; exact h
  | lenl p => simp only [rel, opnds, aval] at *; rw [hev p (by simp)]; exact h
theorem rel_n {P : Program} {o : AOper} (ho : o.cls = .n) {d : Nat} {E E' : Env} {x : AV} (hs : ∀ k ∈ opSlots (opnds o.op),E'.s k = E.s k) (h : rel P o.op d E x) : rel P o.op d E' x:= by
 have h1 : rel P o.op d ⟨E.s,fun _ => none⟩ x:= by
  obtain ⟨dst,op,g⟩:= o
  have gl : ∀ {agg : Bool} {size : Nat} {y : Operand} {g' : Nat},y = .global g' → (∃ g,E.ev y = .gp g ∧ agg = false ∧ g ∈ GS ∧ x = .gl g) ∨ ((∀ g,E.ev y ≠ .gp g) ∧ aval E (.load agg size y) = some x) →
    ∃ g,(⟨E.s,fun _ => none⟩ : Env).ev y = .gp g ∧ agg = false ∧ g ∈ GS ∧ x = .gl g:= by
   rintro agg size y g' rfl (⟨g,e,h1⟩ | ⟨h1,_⟩)
   ·exact ⟨g,e,h1⟩
   ·exact absurd rfl (h1 g')
  have glc : ∀ {agg : Bool} {size : Nat} {y : Operand} {g' : Nat},y = .global g' → (∃ g,E.ev y = .gp g ∧ agg = false ∧ g ∈ GS ∧ x = .gl g) ∨ ((∀ g,E.ev y ≠ .gp g) ∧ aval E (.loadc agg size y) = some x) →
    ∃ g,(⟨E.s,fun _ => none⟩ : Env).ev y = .gp g ∧ agg = false ∧ g ∈ GS ∧ x = .gl g:= by
   rintro agg size y g' rfl (⟨g,e,h1⟩ | ⟨h1,_⟩)
   ·exact ⟨g,e,h1⟩
   ·exact absurd rfl (h1 g')
  cases op with
  | load agg size y =>
   cases y with
   | global g' => exact .inl (gl rfl h)
   | _ => simp [AOper.cls,loadCls] at ho
  | loadc agg size y =>
   cases y with
   | global g' => exact .inl (glc rfl h)
   | _ => simp [AOper.cls,loadCls] at ho
  | _ => first
   | exact h
   | (simp [AOper.cls] at ho; done)
   | (simp [AOper.cls] at ho; split at ho <;> simp_all; done)
 exact rel_mono (E:= ⟨E.s,fun _ => none⟩) hs (by simp) h1
mutual
theorem strip_free (τ : List Nat) : ∀ {x : AV},tokFree x = true → strip τ x = x
 | .sl t e r,h => by cases t <;> simp [tokFree] at h <;> rfl
 | .agg cs,h => by simp only [tokFree] at h; simp only [strip,stripL_free τ h]
 | .tup cs,h => by simp only [tokFree] at h; simp only [strip,stripL_free τ h]
 | .clo f a b,h => by simp only [tokFree,Bool.and_eq_true] at h; simp only [strip,stripL_free τ h.1,stripL_free τ h.2]
 | .ifc t v,h => by simp only [tokFree] at h; simp only [strip,strip_free τ h]
 | .mu t k v,h => rfl
 | .mf t al,h => by simp [tokFree] at h
 | .lit _,_ | .rp _,_ | .bp _,_ | .lp _ _,_ | .ml ..,_ | .mp _ _,_ | .gl _,_ | .gp _,_ | .dead,_ => rfl
theorem stripL_free (τ : List Nat) : ∀ {xs : List AV},tokFreeL xs = true → stripL τ xs = xs
 | [],_ => rfl
 | x :: xs,h => by
  simp only [tokFreeL,Bool.and_eq_true] at h
  simp only [stripL,strip_free τ h.1,stripL_free τ h.2]
end
theorem stripL_map (τ : List Nat) : ∀ xs : List AV,stripL τ xs = xs.map (strip τ)
 | [] => rfl
 | x :: xs => by simp only [stripL,List.map_cons,stripL_map τ xs]
theorem strip_ofVal1 (τ : List Nat) (v : Value) : strip τ (ofVal1 v) = ofVal1 v:= by
 unfold ofVal1
 split <;> rfl
theorem strip_ofVal (τ : List Nat) (v : Value) : strip τ (ofVal v) = ofVal v:= by
 unfold ofVal
 split
 ·rfl
 ·simp only [strip,stripL_map,List.map_map]
  congr 1
  exact List.map_congr_left fun x _ => strip_ofVal1 τ x
 ·rfl
theorem strip_ev (E : Env) (τ : List Nat) (x : Operand) : (E.strip τ).ev x = strip τ (E.ev x):= by
 cases x with
 | tmp t => rfl
 | const v => exact (strip_ofVal τ v).symm
 | global g => rfl
 | func f => rfl
def stripTok (τ : List Nat) : Tok → Tok
 | .own t => if t = τ then .none else .own t
 | .fr t => if t = τ then .gone else .fr t
 | t => t
theorem frB_strip (τ : List Nat) (t : Tok) : frB (stripTok τ t) = frB t:= by
 cases t with
 | own t => simp only [stripTok]; split <;> rfl
 | fr t => simp only [stripTok]; split <;> rfl
 | _ => rfl
theorem strip_sl (τ : List Nat) (t : Tok) (e : Nat) (r : List AV) : strip τ (.sl t e r) = .sl (stripTok τ t) e r:= by
 cases t with
 | own t => simp only [strip,stripTok]; split <;> rfl
 | fr t => simp only [strip,stripTok]; split <;> rfl
 | _ => rfl
theorem ld_strip (τ : List Nat) (agg : Bool) (size : Nat) (cs : List AV) : aval.ld agg size (stripL τ cs) = (aval.ld agg size cs).map (strip τ):= by
 rw [stripL_map]
 cases agg with
 | true =>
  simp only [aval.ld,List.length_map]
  split
  ·simp only [Option.map_some,strip,stripL_map,List.map_take]
  ·rfl
 | false => simp only [aval.ld,List.getElem?_map]
theorem chkTok_strip (τ : List Nat) (x : Option AV) : chkTok x = (chkTok x).map (strip τ):= by
 unfold chkTok
 split
 ·split
  ·rename_i h
   simp only [Option.map_some,strip_free τ h]
  ·rfl
 ·rfl
mutual
theorem plain_strip (τ : List Nat) : ∀ x : AV,plainV (strip τ x) = plainV x
 | .sl t e r => by
  cases t with
  | own t => simp only [strip]; split <;> rfl
  | fr t => simp only [strip]; split <;> rfl
  | _ => rfl
 | .agg cs => by simp only [strip,plainV,plainL_strip τ cs]
 | .tup cs => by simp only [strip,plainV,plainL_strip τ cs]
 | .clo f a b => by simp only [strip,plainV,plainL_strip τ a,plainL_strip τ b]
 | .ifc t v => by simp only [strip,plainV,plain_strip τ v]
 | .lit _ | .rp _ | .bp _ | .lp _ _ | .ml .. | .mp _ _ | .gl _ | .gp _ | .dead | .mu _ _ _ | .mf _ _ => rfl
theorem plainL_strip (τ : List Nat) : ∀ xs : List AV,plainL (stripL τ xs) = plainL xs
 | [] => rfl
 | x :: xs => by simp only [stripL,plainL,plain_strip τ x,plainL_strip τ xs]
end
mutual
theorem unown_strip (τ : List Nat) : ∀ {x : AV},plainV x = true → unownV (strip τ x) = unownV x
 | .sl t e r,h => by
  cases t with
  | own t => simp only [strip]; split <;> rfl
  | fr t => simp [plainV] at h
  | _ => rfl
 | .agg cs,h => by simp only [plainV] at h; simp only [strip,unownV,unownL_strip τ h]
 | .tup cs,h => by simp only [plainV] at h; simp only [strip,unownV,unownL_strip τ h]
 | .clo f a b,h => by simp only [plainV,Bool.and_eq_true] at h; simp only [strip,unownV,unownL_strip τ h.1,unownL_strip τ h.2]
 | .ifc t v,h => by simp only [plainV] at h; simp only [strip,unownV,unown_strip τ h]
 | .mu _ _ _,h | .mf _ _,h | .bp _,h | .lp _ _,h | .ml ..,h => by simp [plainV] at h
 | .lit _,_ | .rp _,_ | .mp _ _,_ | .gl _,_ | .gp _,_ | .dead,_ => rfl
theorem unownL_strip (τ : List Nat) : ∀ {xs : List AV},plainL xs = true → unownL (stripL τ xs) = unownL xs
 | [],_ => rfl
 | x :: xs,h => by simp only [plainL,Bool.and_eq_true] at h; simp only [stripL,unownL,unown_strip τ h.1,unownL_strip τ h.2]
end
theorem closeClo_strip (τ : List Nat) (f : Fn) (a b : List AV) : (if plainL (stripL τ a) && plainL (stripL τ b) then some (AV.clo f (unownL (stripL τ a)) (unownL (stripL τ b))) else none) = if plainL a && plainL b then some (AV.clo f (unownL a) (unownL b)) else none:= by
 rw [plainL_strip,plainL_strip]
 split
 ·rename_i h
  simp only [Bool.and_eq_true] at h
  rw [unownL_strip τ h.1,unownL_strip τ h.2]
 ·rfl
theorem closeV1_strip (τ : List Nat) (x : AV) : closeV.closeV1 (strip τ x) = closeV.closeV1 x:= by
 cases x with
 | sl t e r =>
  cases t with
  | own t => simp only [strip]; split <;> rfl
  | fr t => simp only [strip]; split <;> rfl
  | _ => rfl
 | ifc t v =>
  cases v with
  | sl q e r =>
   cases q with
   | own q => simp only [strip]; split <;> rfl
   | fr q => simp only [strip]; split <;> rfl
   | _ => rfl
  | _ => rfl
 | clo f a b => exact closeClo_strip τ f a b
 | _ => rfl
theorem mapM_close_strip (τ : List Nat) : ∀ cs : List AV,(stripL τ cs).mapM closeV.closeV1 = cs.mapM closeV.closeV1
 | [] => rfl
 | x :: xs => by rw [stripL,List.mapM_cons,List.mapM_cons,closeV1_strip,mapM_close_strip τ xs]
theorem closeV_strip (τ : List Nat) (x : AV) : closeV (strip τ x) = closeV x:= by
 cases x with
 | sl t e r =>
  cases t with
  | own t => simp only [strip]; split <;> rfl
  | fr t => simp only [strip]; split <;> rfl
  | _ => rfl
 | agg cs => simp only [strip,closeV,mapM_close_strip]
 | ifc t v => simp only [strip,closeV,closeV1_strip]
 | clo f a b => exact closeClo_strip τ f a b
 | _ => rfl
theorem rowsOf_strip (τ : List Nat) (esz : Nat) : ∀ xs : List AV,rowsOf esz (xs.map (strip τ)) = rowsOf esz xs
 | [] => rfl
 | x :: xs => by simp only [List.map_cons,rowsOf,closeV_strip,rowsOf_strip τ esz xs]
theorem intOf_strip (τ : List Nat) (x : AV) : intOfA (strip τ x) = intOfA x:= by
 cases x with
 | sl t e r =>
  cases t with
  | own t => simp only [strip]; split <;> rfl
  | fr t => simp only [strip]; split <;> rfl
  | _ => rfl
 | _ => rfl
theorem bnd_strip (τ : List Nat) (E : Env) (d : Nat) (x : Option Operand) : aval.bnd (E.strip τ) d x = aval.bnd E d x:= by
 cases x with
 | none => rfl
 | some y => simp only [aval.bnd,strip_ev,intOf_strip]
theorem aval_strip (τ : List Nat) (E : Env) {op : AOp} (h : okOp op = true) : aval (E.strip τ) op = (aval E op).map (strip τ):= by
 cases op with
 | mov x => simp only [aval,strip_ev,Option.map_some]
 | pick c a b =>
  simp only [aval,strip_ev]
  cases E.ev c with
  | sl t e r => rw [strip_sl]; rfl
  | lit v => cases v with
   | bool t => cases t <;> rfl
   | _ => rfl
  | _ => rfl
 | loadc agg size p =>
  simp only [aval,strip_ev]
  cases E.ev p with
  | sl t e r => rw [strip_sl]; rfl
  | rp cs => exact chkTok_strip τ _
  | bp cs => exact chkTok_strip τ _
  | lp c o =>
   simp only [strip,Env.strip]
   cases E.c c with
   | none => rfl
   | some cs =>
    simp only [Option.map_some]
    rw [show (stripL τ cs).drop o = stripL τ (cs.drop o) by rw [stripL_map,stripL_map,List.map_drop]]
    exact ld_strip τ agg size _
  | _ => rfl
 | nilchk x =>
  simp only [aval,strip_ev]
  cases E.ev x with
  | sl t e r => rw [strip_sl]; rfl
  | clo f a b => cases f <;> rfl
  | _ => rfl
 | bslice n e p => simp only [aval,Option.map_none]
 | faddr o n x =>
  simp only [aval,strip_ev]
  cases E.ev x with
  | sl t e r => rw [strip_sl]; rfl
  | rp cs => simp only [strip]; split <;> rfl
  | bp cs => simp only [strip]; split <;> rfl
  | _ => rfl
 | iaddr esz x i =>
  simp only [aval,strip_ev]
  cases E.ev x with
  | sl t e r =>
   rw [strip_sl]
   have ht : frB t = false → ∀ x : AV,(match stripTok τ t with | .bor => AV.bp (cellsOf x) | _ => .rp (cellsOf x)) = strip τ (match t with | .bor => AV.bp (cellsOf x) | _ => .rp (cellsOf x)):= by
    intro hf x
    cases t with
    | own t => simp only [stripTok]; split <;> first | rfl | (rename_i e; split at e <;> cases e)
    | fr t => simp [frB] at hf
    | _ => rfl
   cases hi : E.ev i with
   | lit v =>
    cases v with
    | int k n =>
     simp only [strip]
     split
     ·cases r[n.toNat]? with
      | none => rfl
      | some x =>
       simp only [frB_strip]
       split
       ·rename_i hf
        split
        ·split
         ·exact congrArg some (ht hf x)
         ·rfl
        ·rfl
       ·rfl
     ·rfl
    | _ => rfl
   | sl t2 e2 r2 => rw [strip_sl]; rfl
   | _ => rfl
  | ml c off len cap g e =>
   cases hi : E.ev i with
   | lit v =>
    cases v with
    | int k n =>
     simp only [strip]
     split
     ·split <;> rfl
     ·rfl
    | _ => rfl
   | sl t2 e2 r2 => rw [strip_sl]; rfl
   | _ => rfl
  | _ => rfl
 | lenl x =>
  simp only [aval,strip_ev]
  cases E.ev x with
  | sl t e r => rw [strip_sl]; rfl
  | _ => rfl
 | lens x =>
  simp only [aval,strip_ev]
  cases E.ev x with
  | sl t e r => rw [strip_sl]; rfl
  | lit v => cases v <;> rfl
  | _ => rfl
 | bin o t x y =>
  simp only [aval,strip_ev]
  cases E.ev x with
  | sl t e r => rw [strip_sl]; rfl
  | lit u =>
   cases u with
   | int k n =>
    cases E.ev y with
    | sl t e r => rw [strip_sl]; rfl
    | lit v =>
     cases v with
     | int k' n' => simp only [strip]; split <;> rfl
     | _ => rfl
    | _ => rfl
   | string b =>
    cases E.ev y with
    | sl t e r => rw [strip_sl]; rfl
    | lit v =>
     cases v with
     | string b' => simp only [strip]; split <;> rfl
     | _ => rfl
    | _ => rfl
   | _ => rfl
  | _ => rfl
 | cint k x =>
  simp only [aval,strip_ev]
  cases E.ev x with
  | sl t e r => rw [strip_sl]; rfl
  | lit v => cases v <;> rfl
  | _ => rfl
 | fld agg o n x =>
  simp only [aval,strip_ev]
  cases E.ev x with
  | sl t e r => rw [strip_sl]; rfl
  | agg cs =>
   simp only [strip]
   rw [show (stripL τ cs).drop o = stripL τ (cs.drop o) by rw [stripL_map,stripL_map,List.map_drop]]
   exact ld_strip τ agg n _
  | _ => rfl
 | ext x i =>
  simp only [aval,strip_ev]
  cases E.ev x with
  | sl t e r => rw [strip_sl]; rfl
  | tup cs => simp only [strip,stripL_map,List.getElem?_map]
  | _ => rfl
 | un o x =>
  simp only [aval,strip_ev]
  cases E.ev x with
  | sl t e r => rw [strip_sl]; rfl
  | lit v => simp only [strip]; split <;> rfl
  | _ => rfl
 | slc esz x lo hi =>
  simp only [aval,strip_ev]
  cases E.ev x with
  | sl t e r =>
   rw [strip_sl]
   have ht : frB t = false → ∀ q : List AV,AV.sl (aval.cutTok (stripTok τ t)) e q = strip τ (.sl (aval.cutTok t) e q):= by
    intro hf q
    cases t with
    | own t => simp only [stripTok]; split <;> rfl
    | fr t => simp [frB] at hf
    | _ => rfl
   simp only [bnd_strip,frB_strip]
   split
   ·split
    ·rename_i hf
     split
     ·split
      ·simp only [Option.map_some,ht hf]
      ·rfl
     ·rfl
    ·rfl
   ·rfl
  | ml c off n cap g e =>
   simp only [bnd_strip,strip]
   split
   ·split
    ·split <;> rfl
    ·rfl
   ·rfl
  | _ => rfl
 | _ => simp [okOp] at h
end Go.Proofs.YtnndbbmidoidpaaGreatDoor.VL
end

section
namespace Go.Proofs.YtnndbbmidoidpaaGreatDoor.VL
open Go.RowKit
def awG (P : Program) (o : AOper) (E : Env) (K : Env → Prop) : Prop :=
 match o.guard with
 | none => awOp P o E K
 | some (s,want) => ∃ t,E.s s = .lit t ∧ (t = .bool want → awOp P o E K) ∧ (t ≠ .bool want → K (E.putO o.dst (.lit undef)))
theorem awOps_cons {P : Program} {o : AOper} {os : List AOper} {E : Env} {K : Env → Prop} : awOps P (o :: os) E K = awG P o E fun E' => awOps P os E' K:= by
 cases hg : o.guard with
 | none => simp only [awOps,awG,hg]
 | some p =>
  obtain ⟨s,w⟩:= p
  simp only [awOps,awG,hg]
def clean (o : AOper) (E : Env) : Prop:= o.cls = .a → ∀ d,o.dst = some d → E.c d = none
def awD (P : Program) (o : AOper) (E : Env) (K : Env → Prop) : Prop:= clean o E ∧ awG P o E K
def awOpsD (P : Program) : List AOper → Env → (Env → Prop) → Prop
 | [],E,K => K E
 | o :: os,E,K => awD P o E fun E' => awOpsD P os E' K
def gval (P : Program) (o : AOper) (E : Env) (x : AV) : Prop :=
 match o.guard with
 | none => rel P o.op (o.dst.getD 0) E x
 | some (s,want) => ∃ t,E.s s = .lit t ∧ (t = .bool want → rel P o.op (o.dst.getD 0) E x) ∧ (t ≠ .bool want → x = .lit undef)
theorem awG_val {P : Program} {o : AOper} (h : o.cls = .n ∨ o.cls = .v) {E : Env} {K : Env → Prop} : awG P o E K ↔ ∃ x,gval P o E x ∧ K (E.putO o.dst x):= by
 unfold awG gval
 split
 ·exact awOp_val h
 ·rename_i s w hg
  constructor
  ·rintro ⟨t,ht,h1,h2⟩
   by_cases hw : t = .bool w
   ·obtain ⟨x,hx,hk⟩:= (awOp_val h).1 (h1 hw)
    exact ⟨x,⟨t,ht,fun _ => hx,fun hne => absurd hw hne⟩,hk⟩
   ·exact ⟨.lit undef,⟨t,ht,fun e => absurd e hw,fun _ => rfl⟩,h2 hw⟩
  ·rintro ⟨x,⟨t,ht,h1,h2⟩,hk⟩
   refine ⟨t,ht,fun hw => (awOp_val h).2 ⟨x,h1 hw,hk⟩,fun hw => ?_⟩
   rw [h2 hw] at hk
   exact hk
theorem reads_op {o : AOper} {k : Nat} (h : k ∈ opSlots (opnds o.op)) : k ∈ o.reads:= List.mem_append_left _ h
theorem reads_guard {o : AOper} {s : Nat} {w : Bool} (h : o.guard = some (s,w)) : s ∈ o.reads:= by
 unfold AOper.reads
 rw [h]
 simp
theorem gval_mono {P : Program} {o : AOper} {E E' : Env} {x : AV} (hs : ∀ k ∈ o.reads,E'.s k = E.s k) (hc : ∀ k v,E.c k = some v → E'.c k = some v) (h : gval P o E x) : gval P o E' x:= by
 unfold gval at h ⊢
 split at h
 ·rename_i hg
  exact rel_mono (fun k hk => hs k (reads_op hk)) hc h
 ·rename_i s w hg
  obtain ⟨t,ht,h1,h2⟩:= h
  exact ⟨t,by rw [hs s (reads_guard hg)]; exact ht,fun hw => rel_mono (fun k hk => hs k (reads_op hk)) hc (h1 hw),h2⟩
theorem gval_n {P : Program} {o : AOper} (ho : o.cls = .n) {E E' : Env} {x : AV} (hs : ∀ k ∈ o.reads,E'.s k = E.s k) (h : gval P o E x) : gval P o E' x:= by
 unfold gval at h ⊢
 split at h
 ·rename_i hg
  exact rel_n ho (fun k hk => hs k (reads_op hk)) h
 ·rename_i s w hg
  obtain ⟨t,ht,h1,h2⟩:= h
  exact ⟨t,by rw [hs s (reads_guard hg)]; exact ht,fun hw => rel_n ho (fun k hk => hs k (reads_op hk)) (h1 hw),h2⟩
def arel (op : AOp) (E : Env) (cs : List AV) : Prop :=
 match op with
 | .alloc z => oneL z = true ∧ cs = z
 | .box x => (E.ev x).row = true ∧ oneL (cellsOf (E.ev x)) = true ∧ cs = cellsOf (E.ev x)
 | _ => False
theorem cls_a {o : AOper} (h : o.cls = .a) : o.guard = none ∧ (∃ d,o.dst = some d) ∧ ((∃ z,o.op = .alloc z) ∨ ∃ x,o.op = .box x):= by
 obtain ⟨dst,op,g⟩:= o
 cases op <;> cases dst <;> cases g <;> simp [AOper.cls] at h ⊢
theorem cls_w {o : AOper} (h : o.cls = .w) : o.guard = none ∧ ∃ s p x,o.op = .store s p x:= by
 obtain ⟨dst,op,g⟩:= o
 cases op <;> cases dst <;> cases g <;> simp [AOper.cls] at h ⊢
theorem fresh_none {E : Env} {d : Nat} (h : E.c d = none) : E.fresh d = E:= by
 unfold Env.fresh
 rw [h]
theorem awG_a {P : Program} {o : AOper} (h : o.cls = .a) {d : Nat} (hd : o.dst = some d) {E : Env} (hc : E.c d = none) {K : Env → Prop} : awG P o E K ↔ ∃ cs,arel o.op E cs ∧ K ((E.putc d cs).put d (.lp d 0)):= by
 obtain ⟨hg,_,ho⟩:= cls_a h
 unfold awG awOp
 rw [hg]
 simp only
 rcases ho with ⟨z,ho⟩ | ⟨x,ho⟩
 ·simp only [ho,hd,step,stepAlloc,arel,fresh_none hc]
  constructor
  ·rintro ⟨E',hs,hk⟩
   split at hs
   ·rename_i h1
    injection hs with hs
    subst hs
    exact ⟨z,⟨h1,rfl⟩,hk⟩
   ·cases hs
  ·rintro ⟨cs,⟨h1,rfl⟩,hk⟩
   exact ⟨_,by rw [if_pos h1],hk⟩
 ·simp only [ho,hd,step,stepBox,arel,fresh_none hc]
  constructor
  ·rintro ⟨E',hs,hk⟩
   split at hs
   ·rename_i h1
    split at hs
    ·rename_i h2
     injection hs with hs
     subst hs
     exact ⟨_,⟨h1,h2,rfl⟩,hk⟩
    ·cases hs
   ·cases hs
  ·rintro ⟨cs,⟨h1,h2,rfl⟩,hk⟩
   exact ⟨_,by rw [if_pos h1,if_pos h2],hk⟩
theorem arel_congr {op : AOp} {E E' : Env} {cs : List AV} (hs : ∀ k ∈ opSlots (opnds op),E'.s k = E.s k) (h : arel op E cs) : arel op E' cs:= by
 have hev:= ev_congr hs
 cases op with
 | alloc z => exact h
 | box x => simp only [arel,opnds] at *; rw [hev x (by simp)]; exact h
 | _ => exact h
theorem stepStore_form {size : Nat} {p x : AV} {E E' : Env} (h : stepStore size p x E = some E') : ∃ c o cs,p = .lp c o ∧ E.c c = some cs ∧ E' = E.putc c (cs.take o ++ cellsOf x ++ cs.drop (o + size)) ∧
  ∀ F : Env,F.c c = some cs → stepStore size p x F = some (F.putc c (cs.take o ++ cellsOf x ++ cs.drop (o + size))):= by
 unfold stepStore at h
 split at h
 ·rename_i c o
  split at h
  ·rename_i cs hcs
   split at h
   case isFalse => cases h
   rename_i h1
   split at h
   case isFalse => cases h
   rename_i h2
   split at h
   case isFalse => cases h
   rename_i h3
   split at h
   case isFalse => cases h
   rename_i h4
   injection h with h
   refine ⟨c,o,cs,rfl,hcs,h.symm,fun F hF => ?_⟩
   simp only [stepStore,hF,if_pos h1,if_pos h2,if_pos h3,if_pos h4]
  ·cases h
 ·cases h
theorem put_put {E : Env} {k j : Nat} {x y : AV} (h : k ≠ j) : (E.put k x).put j y = (E.put j y).put k x:= by
 simp only [Env.put,Env.mk.injEq,and_true]
 funext i
 simp only [upd]
 by_cases h1 : i = k <;> by_cases h2 : i = j <;> simp [h1,h2] <;> omega
theorem putO_putO {E : Env} {k j : Option Nat} {x y : AV} (h : ∀ d,k = some d → j ≠ some d) : (E.putO k x).putO j y = (E.putO j y).putO k x:= by
 cases k with
 | none => rfl
 | some k =>
  cases j with
  | none => rfl
  | some j => exact put_put fun e => h k rfl (e ▸ rfl)
theorem putO_s {E : Env} {k : Option Nat} {x : AV} {j : Nat} (h : k ≠ some j) : (E.putO k x).s j = E.s j:= by
 cases k with
 | none => rfl
 | some k =>
  simp only [Env.putO,Env.put,upd]
  rw [if_neg (fun e => h (by rw [e]))]
theorem putO_c {E : Env} {k : Option Nat} {x : AV} : (E.putO k x).c = E.c:= by cases k <;> rfl
theorem comm_spec {p o : AOper} (h : comm p o = true) : (∀ k ∈ o.reads,p.dst ≠ some k) ∧ (∀ d,p.dst = some d → o.dst ≠ some d) ∧ (∀ k ∈ p.reads,o.dst ≠ some k):= by
 unfold comm at h
 simp only [Bool.and_eq_true] at h
 obtain ⟨⟨h1,h2⟩,_⟩:= h
 refine ⟨fun k hk hd => ?_,fun d hd => ?_,fun k hk hd => ?_⟩
 ·rw [hd] at h1
  simp at h1
  exact h1.1 hk
 ·rw [hd] at h1
  simp at h1
  exact h1.2
 ·rw [hd] at h2
  simp at h2
  exact h2 hk
theorem clean_putO {o : AOper} {E : Env} {k : Option Nat} {x : AV} : clean o (E.putO k x) ↔ clean o E:= by
 unfold clean
 rw [putO_c]
def tokS : AV → Option (List Nat)
 | .sl (.own τ) _ _ => some τ
 | .sl (.fr τ) _ _ => some τ
 | _ => none
def Env.stripO (E : Env) : Option (List Nat) → Env
 | none => E
 | some τ => E.strip τ
def stripV : Option (List Nat) → AV → AV
 | none,x => x
 | some τ,x => strip τ x
def appV (esz bytes d : Nat) (s y : AV) : Option AV :=
 match y with
 | .sl tk' e' rows' =>
  if goneB tk' = false ∧ (e' = esz ∨ rows' = []) then
  match s with
  | .sl (.fr τ) e rows => if e = esz then if rows.length + rows'.length ≤ 4294967296 ∧ bytes ≤ 32768 then some (.sl (.fr [d]) esz (rows ++ rows')) else none else none
  | .sl .nil _ _ => if rows'.length ≤ 4294967296 ∧ bytes ≤ 32768 then some (.sl (.own [d]) esz rows') else none
  | .sl (.own τ) e rows => if e = esz then if rows.length + rows'.length ≤ 4294967296 ∧ bytes ≤ 32768 then some (.sl (.own [d]) esz (rows ++ rows')) else none else none
  | _ => none
  else none
 | _ => none
theorem stepApp_eq (esz bytes d : Nat) (s y : AV) (E : Env) : stepApp esz bytes d s y E = (appV esz bytes d s y).map fun v => (E.stripO (tokS s)).put d v:= by
 unfold stepApp appV
 cases y with
 | sl tk' e' rows' =>
  simp only []
  split
  ·cases s with
   | sl t e rows =>
    cases t with
    | nil => simp only []; split <;> rfl
    | own τ =>
     simp only []
     split
     ·split <;> rfl
     ·rfl
    | fr τ =>
     simp only []
     split
     ·split <;> rfl
     ·rfl
    | _ => rfl
   | _ => rfl
  ·rfl
 | _ => rfl
theorem cls_p {o : AOper} (h : o.cls = .p) : o.guard = none ∧ ∃ d,o.dst = some d ∧ ∃ e b bs x y,o.op = .app e b bs x y:= by
 obtain ⟨dst,op,g⟩:= o
 cases op <;> cases dst <;> cases g <;> simp [AOper.cls] at h ⊢
theorem awG_p {P : Program} {o : AOper} (h : o.cls = .p) {d e b : Nat} {bs : List Nat} {x y : Operand} (hd : o.dst = some d) (ho : o.op = .app e b bs x y) {E : Env} {K : Env → Prop} :
  awG P o E K ↔ okBs bs (E.ev x) = true ∧ ∃ v,appV e b d (E.ev x) (E.ev y) = some v ∧ K ((E.stripO (tokS (E.ev x))).put d v):= by
 obtain ⟨hg,_⟩:= cls_p h
 unfold awG awOp
 rw [hg]
 simp only [ho,step,hd]
 constructor
 ·rintro ⟨E',hs,hk⟩
  split at hs
  ·rename_i hb
   rw [stepApp_eq] at hs
   obtain ⟨v,hv,rfl⟩:= Option.map_eq_some_iff.1 hs
   exact ⟨hb,v,hv,hk⟩
  ·cases hs
 ·rintro ⟨hb,v,hv,hk⟩
  exact ⟨_,by rw [if_pos hb,stepApp_eq,hv]; rfl,hk⟩
theorem stripO_put (E : Env) (t : Option (List Nat)) (k : Nat) (x : AV) : (E.put k x).stripO t = (E.stripO t).put k (stripV t x):= by
 cases t with
 | none => rfl
 | some τ =>
  simp only [Env.stripO,Env.strip,Env.put,Env.mk.injEq,and_true,stripV]
  funext j
  simp only [upd]
  split <;> rfl
theorem strip_gp_iff {τ : List Nat} {x : AV} {g : Nat} : strip τ x = .gp g ↔ x = .gp g:= by
 cases x with
 | sl t e r => rw [strip_sl]; simp
 | _ => simp [strip]
theorem rel_stripO {P : Program} {op : AOp} {d : Nat} {E : Env} {t : Option (List Nat)} (hop : okOp op = true) (hb : ∀ n e ps,op = .bslice n e ps → t ≠ some [d]) {y : AV} : rel P op d (E.stripO t) y ↔ ∃ x,rel P op d E x ∧ y = stripV t x:= by
 cases t with
 | none => simp [Env.stripO,stripV]
 | some τ =>
  have pl : (∀ (F : Env) z,rel P op d F z ↔ aval F op = some z) → (rel P op d (E.strip τ) y ↔ ∃ x,rel P op d E x ∧ y = strip τ x):= by
   intro h
   rw [h,aval_strip τ E hop,Option.map_eq_some_iff]
   constructor
   ·rintro ⟨x,h1,h2⟩; exact ⟨x,(h _ _).2 h1,h2.symm⟩
   ·rintro ⟨x,h1,h2⟩; exact ⟨x,(h _ _).1 h1,h2.symm⟩
  show rel P op d (E.strip τ) y ↔ ∃ x,rel P op d E x ∧ y = strip τ x
  cases op with
  | bslice n esz ps =>
   have hne : [d] ≠ τ:= fun e => hb n esz ps rfl (by rw [e])
   have e1 : ps.map (E.strip τ).ev = (ps.map E.ev).map (strip τ):= by
    rw [List.map_map]
    exact List.map_congr_left fun z _ => strip_ev E τ z
   simp only [rel,e1,rowsOf_strip]
   constructor
   ·rintro ⟨rows,h1,rfl⟩
    exact ⟨_,⟨rows,h1,rfl⟩,by simp only [strip,if_neg hne]⟩
   ·rintro ⟨_,⟨rows,h1,rfl⟩,rfl⟩
    exact ⟨rows,h1,by simp only [strip,if_neg hne]⟩
  | loadc agg size p =>
   simp only [rel,strip_ev,strip_gp_iff]
   have e1:= aval_strip τ E hop
   rw [e1]
   constructor
   ·rintro (⟨g,h1,h2,h3,rfl⟩ | ⟨h1,h2⟩)
    ·exact ⟨.gl g,.inl ⟨g,h1,h2,h3,rfl⟩,rfl⟩
    ·obtain ⟨x,h3,rfl⟩:= Option.map_eq_some_iff.1 h2
     exact ⟨x,.inr ⟨fun g e => h1 g (strip_gp_iff.2 e),h3⟩,rfl⟩
   ·rintro ⟨x,⟨g,h1,h2,h3,rfl⟩ | ⟨h1,h2⟩,rfl⟩
    ·exact .inl ⟨g,h1,h2,h3,rfl⟩
    ·exact .inr ⟨fun g e => h1 g (strip_gp_iff.1 e),by rw [h2]; rfl⟩
  | mov x => exact pl fun _ _ => Iff.rfl
  | nilchk x => exact pl fun _ _ => Iff.rfl
  | pick a b c => exact pl fun _ _ => Iff.rfl
  | faddr a b c => exact pl fun _ _ => Iff.rfl
  | iaddr a b c => exact pl fun _ _ => Iff.rfl
  | lenl a => exact pl fun _ _ => Iff.rfl
  | lens a => exact pl fun _ _ => Iff.rfl
  | bin a b c e => exact pl fun _ _ => Iff.rfl
  | cint a b => exact pl fun _ _ => Iff.rfl
  | fld a b c e => exact pl fun _ _ => Iff.rfl
  | ext a b => exact pl fun _ _ => Iff.rfl
  | un a b => exact pl fun _ _ => Iff.rfl
  | slc a b c e => exact pl fun _ _ => Iff.rfl
  | _ => simp [okOp] at hop
theorem okPair_spec {o p : AOper} (h : okPair o p = true) : o.guard = none ∧ (∃ d,o.dst = some d) ∧ okOp o.op = true ∧
  ∀ n e ps,o.op = .bslice n e ps → ∀ a b bs x y,p.op = .app a b bs x y → ∀ d,o.dst = some d → bs.contains d = true:= by
 unfold okPair at h
 simp only [Bool.and_eq_true,Option.isNone_iff_eq_none] at h
 obtain ⟨⟨⟨h1,h2⟩,h3⟩,h4⟩:= h
 refine ⟨h1,Option.isSome_iff_exists.1 h2,h3,fun n e ps ho a b bs x y hp d hd => ?_⟩
 rw [ho,hp,hd] at h4
 exact h4
theorem okAl_spec {o : AOper} (h : okAl o = true) : ∃ z,o.op = .alloc z ∧ tokFreeL z = true:= by
 unfold okAl at h
 split at h
 ·rename_i z hz
  exact ⟨z,hz,h⟩
 ·cases h
theorem stripO_none {E : Env} {t : Option (List Nat)} {j : Nat} : (E.stripO t).c j = none ↔ E.c j = none:= by
 cases t with
 | none => rfl
 | some τ =>
  show (E.c j).map (stripL τ) = none ↔ _
  simp
def stripVL : Option (List Nat) → List AV → List AV
 | none,x => x
 | some τ,x => stripL τ x
theorem stripVL_free (t : Option (List Nat)) {xs : List AV} (h : tokFreeL xs = true) : stripVL t xs = xs:= by
 cases t with
 | none => rfl
 | some τ => exact stripL_free τ h
theorem stripO_putc (E : Env) (t : Option (List Nat)) (k : Nat) (x : List AV) : (E.putc k x).stripO t = (E.stripO t).putc k (stripVL t x):= by
 cases t with
 | none => rfl
 | some τ =>
  simp only [Env.stripO,Env.strip,Env.putc,Env.mk.injEq,true_and,stripVL]
  funext j
  simp only [upd]
  split <;> rfl
theorem okBs_ne {bs : List Nat} {v : AV} (h : okBs bs v = true) {d : Nat} (hd : bs.contains d = true) : tokS v ≠ some [d]:= by
 intro e
 unfold tokS at e
 split at e
 ·injection e with e
  subst e
  simp only [okBs,List.all_eq_true,bne_iff_ne,ne_eq] at h
  exact h d (by simpa using hd) rfl
 ·injection e with e
  subst e
  simp only [okBs,List.all_eq_true,bne_iff_ne,ne_eq] at h
  exact h d (by simpa using hd) rfl
 ·cases e
theorem swap {P : Program} {p o : AOper} (h : comm p o = true) {E : Env} {K : Env → Prop} (hp : awD P p E fun E1 => awD P o E1 K) : awD P o E fun E1 => awD P p E1 K:= by
 obtain ⟨c1,c2,c3⟩:= comm_spec h
 have c2' : ∀ d,o.dst = some d → p.dst ≠ some d:= fun d hd hpd => c2 d hpd hd
 obtain ⟨hcp,hp⟩:= hp
 have hcls : (match p.cls,o.cls with | .n,.n | .n,.v | .v,.n | .v,.v | .n,.a | .v,.a | .a,.n | .a,.a | .n,.w | .w,.n => true | .p,.n | .p,.v => okPair o p | .n,.p | .v,.p => okPair p o | .p,.a => okAl o | .a,.p => okAl p | _,_ => false) = true:= by
  unfold comm at h
  simp only [Bool.and_eq_true] at h
  exact h.2
 have notA : ∀ {q : AOper} {F : Env},q.cls ≠ .a → clean q F:= fun hq e => absurd e hq
 have vv : (p.cls = .n ∨ p.cls = .v) → (o.cls = .n ∨ o.cls = .v) → awD P o E fun E1 => awD P p E1 K:= by
  intro hpv hov
  obtain ⟨x,hx,hco,ho⟩:= (awG_val hpv).1 hp
  obtain ⟨y,hy,hk⟩:= (awG_val hov).1 ho
  refine ⟨notA (by rcases hov with e | e <;> rw [e] <;> simp),(awG_val hov).2 ⟨y,gval_mono (fun k hk => (putO_s (c1 k hk)).symm) (by rw [putO_c]; exact fun _ _ h => h) hy,notA (by rcases hpv with e | e <;> rw [e] <;> simp),(awG_val hpv).2 ⟨x,gval_mono (fun k hk => putO_s (c3 k hk)) (by rw [putO_c]; exact fun _ _ h => h) hx,?_⟩⟩⟩
  rw [putO_putO c2']
  exact hk
 have va : (p.cls = .n ∨ p.cls = .v) → o.cls = .a → awD P o E fun E1 => awD P p E1 K:= by
  intro hpv hoa
  obtain ⟨_,⟨d,hd⟩,_⟩:= cls_a hoa
  obtain ⟨x,hx,hco,ho⟩:= (awG_val hpv).1 hp
  have hco':= clean_putO.1 hco
  have hcd : E.c d = none:= hco' hoa d hd
  obtain ⟨cs,hcs,hk⟩:= (awG_a hoa hd (by rw [putO_c]; exact hcd)).1 ho
  refine ⟨hco',(awG_a hoa hd hcd).2 ⟨cs,arel_congr (fun k hk => (putO_s (c1 k (reads_op hk))).symm) hcs,notA (by rcases hpv with e | e <;> rw [e] <;> simp),(awG_val hpv).2 ⟨x,gval_mono (fun k hk => ?_) (fun k v hv => ?_) hx,?_⟩⟩⟩
  ·have:= c3 k hk
   rw [hd] at this
   simp only [Env.put,Env.putc,upd]
   rw [if_neg (fun e => this (by rw [e]))]
  ·simp only [Env.put,Env.putc,upd]
   rw [if_neg (fun e => by rw [e,hcd] at hv; cases hv)]
   exact hv
  ·have e1 : ((E.putc d cs).put d (.lp d 0)).putO p.dst x = ((E.putO p.dst x).putc d cs).put d (.lp d 0):= by
    cases hpd : p.dst with
    | none => rfl
    | some j =>
     have hne : d ≠ j:= fun e => c2 j hpd (by rw [hd,e])
     simp only [Env.putO]
     rw [put_put hne]
     rfl
   rw [e1]
   exact hk
 have an : p.cls = .a → o.cls = .n → awD P o E fun E1 => awD P p E1 K:= by
  intro hpa hon
  obtain ⟨_,⟨d,hd⟩,_⟩:= cls_a hpa
  have hcd : E.c d = none:= hcp hpa d hd
  obtain ⟨cs,hcs,hco,ho⟩:= (awG_a hpa hd hcd).1 hp
  obtain ⟨y,hy,hk⟩:= (awG_val (.inl hon)).1 ho
  refine ⟨notA (by rw [hon]; simp),(awG_val (.inl hon)).2 ⟨y,gval_n hon (fun k hk => ?_) hy,clean_putO.2 hcp,(awG_a hpa hd (by rw [putO_c]; exact hcd)).2 ⟨cs,arel_congr (fun k hk => putO_s (c3 k (reads_op hk))) hcs,?_⟩⟩⟩
  ·have:= c1 k hk
   rw [hd] at this
   simp only [Env.put,Env.putc,upd]
   rw [if_neg (fun e => this (by rw [e]))]
  ·have e1 : ((E.putO o.dst y).putc d cs).put d (.lp d 0) = ((E.putc d cs).put d (.lp d 0)).putO o.dst y:= by
    cases hod : o.dst with
    | none => rfl
    | some j =>
     have hne : d ≠ j:= fun e => c2 d hd (by rw [hod,e])
     simp only [Env.putO]
     rw [put_put (E:= E.putc d cs) hne]
     rfl
   rw [e1]
   exact hk
 have aa : p.cls = .a → o.cls = .a → awD P o E fun E1 => awD P p E1 K:= by
  intro hpa hoa
  obtain ⟨_,⟨d,hd⟩,_⟩:= cls_a hpa
  obtain ⟨_,⟨j,hj⟩,_⟩:= cls_a hoa
  have hne : d ≠ j:= fun e => c2 d hd (by rw [hj,e])
  have hcd : E.c d = none:= hcp hpa d hd
  obtain ⟨cs,hcs,hco,ho⟩:= (awG_a hpa hd hcd).1 hp
  have hcj':= hco hoa j hj
  have hcj : E.c j = none:= by
   simp only [Env.put,Env.putc,upd] at hcj'
   rw [if_neg (Ne.symm hne)] at hcj'
   exact hcj'
  obtain ⟨cs',hcs',hk⟩:= (awG_a hoa hj hcj').1 ho
  have hc2 : ((E.putc j cs').put j (.lp j 0)).c d = none:= by
   simp only [Env.put,Env.putc,upd]
   rw [if_neg hne]
   exact hcd
  refine ⟨fun _ k hk => by rw [hj] at hk; injection hk with hk; subst hk; exact hcj,(awG_a hoa hj hcj).2 ⟨cs',arel_congr (fun k hk => ?_) hcs',fun _ k hk => by rw [hd] at hk; injection hk with hk; subst hk; exact hc2,(awG_a hpa hd hc2).2 ⟨cs,arel_congr (fun k hk => ?_) hcs,?_⟩⟩⟩
  ·have:= c1 k (reads_op hk)
   rw [hd] at this
   simp only [Env.put,Env.putc,upd]
   rw [if_neg (fun e => this (by rw [e]))]
  ·have:= c3 k (reads_op hk)
   rw [hj] at this
   simp only [Env.put,Env.putc,upd]
   rw [if_neg (fun e => this (by rw [e]))]
  ·have e1 : (((E.putc j cs').put j (.lp j 0)).putc d cs).put d (.lp d 0) = (((E.putc d cs).put d (.lp d 0)).putc j cs').put j (.lp j 0):= by
    simp only [Env.put,Env.putc,Env.mk.injEq]
    constructor <;> funext i <;> simp only [upd] <;> by_cases h1 : i = d <;> by_cases h2 : i = j <;> simp [h1,h2] <;> omega
   rw [e1]
   exact hk
 have wform : ∀ {q : AOper} {F : Env} {KK : Env → Prop},q.cls = .w → awG P q F KK → q.dst = none ∧ ∃ s pp xx,q.op = .store s pp xx ∧ ∃ F',stepStore s (F.ev pp) (F.ev xx) F = some F' ∧ KK F':= by
  intro q F KK hq hg
  obtain ⟨hgd,s,pp,xx,hop⟩:= cls_w hq
  unfold awG awOp at hg
  rw [hgd] at hg
  simp only [hop,step] at hg
  obtain ⟨F',hs,hk⟩:= hg
  cases hqd : q.dst with
  | none => rw [hqd] at hs; exact ⟨rfl,s,pp,xx,hop,F',hs,hk⟩
  | some d => rw [hqd] at hs; cases hs
 have wback : ∀ {q : AOper} {F F' : Env} {KK : Env → Prop} {s : Nat} {pp xx : Operand},q.cls = .w → q.dst = none → q.op = .store s pp xx → stepStore s (F.ev pp) (F.ev xx) F = some F' → KK F' → awG P q F KK:= by
  intro q F F' KK s pp xx hq hqd hop hs hk
  obtain ⟨hgd,_⟩:= cls_w hq
  unfold awG awOp
  rw [hgd]
  simp only [hop,step,hqd]
  exact ⟨F',hs,hk⟩
 have nw : p.cls = .n → o.cls = .w → awD P o E fun E1 => awD P p E1 K:= by
  intro hpn how
  obtain ⟨x,hx,hco,ho⟩:= (awG_val (.inl hpn)).1 hp
  obtain ⟨hod,s,pp,xx,hop,F',hs,hk⟩:= wform how ho
  have e1 : ∀ y ∈ opnds o.op,(E.putO p.dst x).ev y = E.ev y:= ev_congr fun k hk => putO_s (c1 k (reads_op hk))
  rw [hop] at e1
  simp only [opnds] at e1
  rw [e1 pp (by simp),e1 xx (by simp)] at hs
  obtain ⟨c,off,cs,_,hc,rfl,hF⟩:= stepStore_form hs
  refine ⟨notA (by rw [how]; simp),wback how hod hop (hF E (by rw [putO_c] at hc; exact hc)) ⟨notA (by rw [hpn]; simp),(awG_val (.inl hpn)).2 ⟨x,gval_n (E:= E) hpn (fun _ _ => rfl) hx,?_⟩⟩⟩
  have e2 : (E.putc c (cs.take off ++ cellsOf (E.ev xx) ++ cs.drop (off + s))).putO p.dst x = (E.putO p.dst x).putc c (cs.take off ++ cellsOf (E.ev xx) ++ cs.drop (off + s)):= by cases p.dst <;> rfl
  rw [e2]
  exact hk
 have wn : p.cls = .w → o.cls = .n → awD P o E fun E1 => awD P p E1 K:= by
  intro hpw hon
  obtain ⟨hpd,s,pp,xx,hop,F',hs,hco,ho⟩:= wform hpw hp
  obtain ⟨c,off,cs,_,hc,rfl,hF⟩:= stepStore_form hs
  obtain ⟨y,hy,hk⟩:= (awG_val (.inl hon)).1 ho
  have e1 : ∀ z ∈ opnds p.op,(E.putO o.dst y).ev z = E.ev z:= ev_congr fun k hk => putO_s (c3 k (reads_op hk))
  rw [hop] at e1
  simp only [opnds] at e1
  refine ⟨notA (by rw [hon]; simp),(awG_val (.inl hon)).2 ⟨y,gval_n (E:= E.putc c (cs.take off ++ cellsOf (E.ev xx) ++ cs.drop (off + s))) hon (fun _ _ => rfl) hy,notA (by rw [hpw]; simp),wback hpw hpd hop (by rw [e1 pp (by simp),e1 xx (by simp)]; exact hF _ (by rw [putO_c]; exact hc)) ?_⟩⟩
  have e2 : (E.putO o.dst y).putc c (cs.take off ++ cellsOf (E.ev xx) ++ cs.drop (off + s)) = (E.putc c (cs.take off ++ cellsOf (E.ev xx) ++ cs.drop (off + s))).putO o.dst y:= by cases o.dst <;> rfl
  rw [e2]
  exact hk
 have pv : p.cls = .p → (o.cls = .n ∨ o.cls = .v) → okPair o p = true → awD P o E fun E1 => awD P p E1 K:= by
  intro hpp hov hpair
  obtain ⟨hog,⟨do_,hod⟩,hop,hbs⟩:= okPair_spec hpair
  obtain ⟨hpg,d,hd,e,b,bs,x,y,hpo⟩:= cls_p hpp
  obtain ⟨hb,v,hv,hco,ho⟩:= (awG_p hpp hd hpo).1 hp
  obtain ⟨w,hw,hk⟩:= (awG_val hov).1 ho
  have hne : do_ ≠ d:= fun e => c2 d hd (by rw [hod,e])
  have hw1 : rel P o.op do_ ((E.stripO (tokS (E.ev x))).put d v) w:= by
   unfold gval at hw
   rw [hog,hod] at hw
   exact hw
  have hw2 : rel P o.op do_ (E.stripO (tokS (E.ev x))) w:= rel_mono (E:= (E.stripO (tokS (E.ev x))).put d v) (E':= E.stripO (tokS (E.ev x))) (fun k hk => by
   have:= c1 k (reads_op hk)
   rw [hd] at this
   simp only [Env.put,upd]
   rw [if_neg (fun e => this (by rw [e]))]) (fun _ _ h => h) hw1
  obtain ⟨z,hz,rfl⟩:= (rel_stripO hop (fun n e' ps he => okBs_ne hb (hbs n e' ps he _ _ _ _ _ hpo do_ hod))).1 hw2
  have hev : ∀ q ∈ opnds p.op,(E.putO o.dst z).ev q = E.ev q:= ev_congr fun k hk => putO_s (c3 k (reads_op hk))
  rw [hpo] at hev
  simp only [opnds] at hev
  refine ⟨notA (by rcases hov with e | e <;> rw [e] <;> simp),(awG_val hov).2 ⟨z,?_,notA (by rw [hpp]; simp),(awG_p hpp hd hpo).2 ?_⟩⟩
  ·unfold gval
   rw [hog,hod]
   exact hz
  ·rw [hev x (by simp),hev y (by simp)]
   refine ⟨hb,v,hv,?_⟩
   rw [hod]
   simp only [Env.putO]
   rw [stripO_put,put_put hne]
   rw [hod] at hk
   exact hk
 have pa : p.cls = .p → o.cls = .a → okAl o = true → awD P o E fun E1 => awD P p E1 K:= by
  intro hpp hoa hal
  obtain ⟨_,⟨j,hj⟩,_⟩:= cls_a hoa
  obtain ⟨z,hz,hzf⟩:= okAl_spec hal
  obtain ⟨hpg,d,hd,e,b,bs,x,y,hpo⟩:= cls_p hpp
  obtain ⟨hb,v,hv,hco,ho⟩:= (awG_p hpp hd hpo).1 hp
  have hne : j ≠ d:= fun e => c2 d hd (by rw [hj,e])
  have hcj:= hco hoa j hj
  have hcj' : E.c j = none:= stripO_none.1 hcj
  obtain ⟨cs,hcs,hk⟩:= (awG_a hoa hj hcj).1 ho
  have hev : ∀ q ∈ opnds p.op,((E.putc j cs).put j (.lp j 0)).ev q = E.ev q:= ev_congr fun k hk => by
   have:= c3 k (reads_op hk)
   rw [hj] at this
   simp only [Env.put,Env.putc,upd]
   rw [if_neg (fun e => this (by rw [e]))]
  rw [hpo] at hev
  simp only [opnds] at hev
  have hcs' : arel o.op E cs:= by rw [hz] at hcs ⊢; exact hcs
  have hcz : cs = z:= by rw [hz] at hcs; exact hcs.2
  refine ⟨fun _ k hk => by rw [hj] at hk; injection hk with hk; subst hk; exact hcj',(awG_a hoa hj hcj').2 ⟨cs,hcs',notA (by rw [hpp]; simp),(awG_p hpp hd hpo).2 ?_⟩⟩
  rw [hev x (by simp),hev y (by simp)]
  refine ⟨hb,v,hv,?_⟩
  rw [stripO_put,stripO_putc,hcz,stripVL_free _ hzf,show stripV (tokS (E.ev x)) (.lp j 0) = .lp j 0 by cases tokS (E.ev x) <;> rfl,put_put hne]
  rw [hcz] at hk
  exact hk
 have ap : p.cls = .a → o.cls = .p → okAl p = true → awD P o E fun E1 => awD P p E1 K:= by
  intro hpa hop hal
  obtain ⟨_,⟨j,hj⟩,_⟩:= cls_a hpa
  obtain ⟨z,hz,hzf⟩:= okAl_spec hal
  obtain ⟨hog,d,hd,e,b,bs,x,y,hoo⟩:= cls_p hop
  have hne : j ≠ d:= fun e => c2 j hj (by rw [hd,e])
  have hcj : E.c j = none:= hcp hpa j hj
  obtain ⟨cs,hcs,hco,ho⟩:= (awG_a hpa hj hcj).1 hp
  obtain ⟨hb,v,hv,hk⟩:= (awG_p hop hd hoo).1 ho
  have hev : ∀ q ∈ opnds o.op,((E.putc j cs).put j (.lp j 0)).ev q = E.ev q:= ev_congr fun k hk => by
   have:= c1 k (reads_op hk)
   rw [hj] at this
   simp only [Env.put,Env.putc,upd]
   rw [if_neg (fun e => this (by rw [e]))]
  rw [hoo] at hev
  simp only [opnds] at hev
  rw [hev x (by simp),hev y (by simp)] at hv
  rw [hev x (by simp)] at hb hk
  have hcz : cs = z:= by rw [hz] at hcs; exact hcs.2
  have hcj2 : ((E.stripO (tokS (E.ev x))).put d v).c j = none:= stripO_none.2 hcj
  refine ⟨notA (by rw [hop]; simp),(awG_p hop hd hoo).2 ⟨hb,v,hv,fun _ k hk => by rw [hj] at hk; injection hk with hk; subst hk; exact hcj2,(awG_a hpa hj hcj2).2 ⟨cs,by rw [hz] at hcs ⊢; exact hcs,?_⟩⟩⟩
  rw [stripO_put,stripO_putc,hcz,stripVL_free _ hzf,show stripV (tokS (E.ev x)) (.lp j 0) = .lp j 0 by cases tokS (E.ev x) <;> rfl] at hk
  have e1 : (((E.stripO (tokS (E.ev x))).put d v).putc j cs).put j (.lp j 0) = (((E.stripO (tokS (E.ev x))).putc j cs).put j (.lp j 0)).put d v:= by
   rw [put_put hne]
   rfl
  rw [e1,hcz]
  exact hk
 have vp : o.cls = .p → (p.cls = .n ∨ p.cls = .v) → okPair p o = true → awD P o E fun E1 => awD P p E1 K:= by
  intro hop hpv hpair
  obtain ⟨hpg,⟨dp,hpd⟩,hpo,hbs⟩:= okPair_spec hpair
  obtain ⟨hog,d,hd,e,b,bs,x,y,hoo⟩:= cls_p hop
  obtain ⟨z,hz,hco,ho⟩:= (awG_val hpv).1 hp
  obtain ⟨hb,v,hv,hk⟩:= (awG_p hop hd hoo).1 ho
  have hne : dp ≠ d:= fun e => c2 dp hpd (by rw [hd,e])
  have hev : ∀ q ∈ opnds o.op,(E.putO p.dst z).ev q = E.ev q:= ev_congr fun k hk => putO_s (c1 k (reads_op hk))
  rw [hoo] at hev
  simp only [opnds] at hev
  rw [hev x (by simp),hev y (by simp)] at hv
  rw [hev x (by simp)] at hb hk
  have hz1 : rel P p.op dp E z:= by
   unfold gval at hz
   rw [hpg,hpd] at hz
   exact hz
  have hz2:= (rel_stripO (P:= P) (E:= E) (t:= tokS (E.ev x)) hpo (fun n e' ps he => okBs_ne hb (hbs n e' ps he _ _ _ _ _ hoo dp hpd))).2 ⟨z,hz1,rfl⟩
  refine ⟨notA (by rw [hop]; simp),(awG_p hop hd hoo).2 ⟨hb,v,hv,notA (by rcases hpv with e | e <;> rw [e] <;> simp),(awG_val hpv).2 ⟨stripV (tokS (E.ev x)) z,?_,?_⟩⟩⟩
  ·unfold gval
   rw [hpg,hpd]
   refine rel_mono (E:= E.stripO (tokS (E.ev x))) (E':= (E.stripO (tokS (E.ev x))).put d v) (fun k hk => ?_) (fun _ _ h => h) hz2
   have:= c3 k (reads_op hk)
   rw [hd] at this
   simp only [Env.put,upd]
   rw [if_neg (fun e => this (by rw [e]))]
  ·rw [hpd] at hk ⊢
   simp only [Env.putO] at hk ⊢
   rw [stripO_put] at hk
   rw [put_put (Ne.symm hne)]
   exact hk
 cases hpc : p.cls with
 | n =>
  cases hoc : o.cls with
  | n => exact vv (.inl hpc) (.inl hoc)
  | v => exact vv (.inl hpc) (.inr hoc)
  | a => exact va (.inl hpc) hoc
  | w => exact nw hpc hoc
  | p => rw [hpc,hoc] at hcls; exact vp hoc (.inl hpc) hcls
  | x => rw [hpc,hoc] at hcls; cases hcls
 | v =>
  cases hoc : o.cls with
  | n => exact vv (.inr hpc) (.inl hoc)
  | v => exact vv (.inr hpc) (.inr hoc)
  | a => exact va (.inr hpc) hoc
  | p => rw [hpc,hoc] at hcls; exact vp hoc (.inr hpc) hcls
  | w => rw [hpc,hoc] at hcls; cases hcls
  | x => rw [hpc,hoc] at hcls; cases hcls
 | p =>
  cases hoc : o.cls with
  | n => rw [hpc,hoc] at hcls; exact pv hpc (.inl hoc) hcls
  | v => rw [hpc,hoc] at hcls; exact pv hpc (.inr hoc) hcls
  | a => rw [hpc,hoc] at hcls; exact pa hpc hoc hcls
  | w => rw [hpc,hoc] at hcls; cases hcls
  | p => rw [hpc,hoc] at hcls; cases hcls
  | x => rw [hpc,hoc] at hcls; cases hcls
 | a =>
  cases hoc : o.cls with
  | n => exact an hpc hoc
  | a => exact aa hpc hoc
  | p => rw [hpc,hoc] at hcls; exact ap hpc hoc hcls
  | v => rw [hpc,hoc] at hcls; cases hcls
  | w => rw [hpc,hoc] at hcls; cases hcls
  | x => rw [hpc,hoc] at hcls; cases hcls
 | w =>
  cases hoc : o.cls with
  | n => exact wn hpc hoc
  | p => rw [hpc,hoc] at hcls; cases hcls
  | v => rw [hpc,hoc] at hcls; cases hcls
  | a => rw [hpc,hoc] at hcls; cases hcls
  | w => rw [hpc,hoc] at hcls; cases hcls
  | x => rw [hpc,hoc] at hcls; cases hcls
 | x =>
  cases hoc : o.cls <;> rw [hpc,hoc] at hcls <;> cases hcls
theorem awD_mono {P : Program} {o : AOper} {E : Env} {K K' : Env → Prop} (hk : ∀ E, K E → K' E) (h : awD P o E K) : awD P o E K' := by
  refine ⟨h.1, ?_⟩
  have h2 := h.2
  have op : ∀ E, awOp P o E K → awOp P o E K' := by
    intro E h
    unfold awOp at h ⊢
    split at h
    · obtain ⟨as, r, h1, h2, h3⟩ := h; exact ⟨as, r, h1, h2, hk _ h3⟩
    · obtain ⟨f, a, b, h0, as, r, h1, h2, h3⟩ := h; exact ⟨f, a, b, h0, as, r, h1, h2, hk _ h3⟩
    · exact h.imp (fun ⟨as, r, h1, h2, h3⟩ => ⟨as, r, h1, h2, hk _ h3⟩) fun ⟨m, as, c0, r, c1, h1, h2, h3, h4, h5⟩ => ⟨m, as, c0, r, c1, h1, h2, h3, h4, hk _ h5⟩
    · obtain ⟨f, a, b, h0, h⟩ := h
      exact ⟨f, a, b, h0, h.imp (fun ⟨as, r, h1, h2, h3⟩ => ⟨as, r, h1, h2, hk _ h3⟩) fun ⟨m, as, c0, r, c1, h1, h2, h3, h4, h5⟩ => ⟨m, as, c0, r, c1, h1, h2, h3, h4, hk _ h5⟩⟩
    · obtain ⟨d, h1, h2⟩ := h; exact ⟨d, h1, h2.imp (hk _) (hk _)⟩
    · obtain ⟨E', h1, h2⟩ := h; exact ⟨E', h1, hk _ h2⟩
  unfold awG at h2 ⊢
  split at h2
  · exact op _ h2
  · obtain ⟨t, ht, h3, h4⟩ := h2
    exact ⟨t, ht, fun e => op _ (h3 e), fun e => hk _ (h4 e)⟩
theorem bubble {P : Program} {o : AOper} {post : List AOper} {K : Env → Prop} : ∀ (pre : List AOper) (E : Env),(∀ p ∈ pre,comm p o = true) → awOpsD P (pre ++ o :: post) E K → awD P o E fun E' => awOpsD P (pre ++ post) E' K
 | [],E,_,h => h
 | p :: pre,E,hc,h => by
  simp only [List.cons_append,awOpsD] at h ⊢
  exact swap (hc p (by simp)) (awD_mono (fun E' h' => bubble pre E' (fun q hq => hc q (by simp [hq])) h') h)
end Go.Proofs.YtnndbbmidoidpaaGreatDoor.VL
end

section
namespace Go.Proofs.YtnndbbmidoidpaaGreatDoor.VL
open Go.RowKit
def edgesOf (o : Oper) : List Nat:= (o.after.toList.filter fun e => Region.binds .any e).map (·.on)
def insN (l : List Nat) (k : Nat) : List Nat:= if l.contains k then l else k :: l
def befs : List Oper → List (List Nat) → List (List Nat)
 | [],acc => acc
 | o :: os,acc => befs os (acc ++ [((edgesOf o).flatMap fun e => e :: acc.getD e []).foldl insN []])
def okDraw (P : Program) (ops : Array Oper) : Bool :=
 let B:= befs ops.toList []
 let L:= ops.toList.map (resOperD P ops)
 ((List.range ops.size).all fun i => (match ops[i]? with | some o => (edgesOf o).all fun e => decide (e < i) | none => true) &&
  (List.range i).all fun k => (B.getD i []).contains k || comm (L.getD k default) (L.getD i default))
theorem mem_insN {l : List Nat} {k j : Nat} : j ∈ insN l k ↔ j = k ∨ j ∈ l:= by
 unfold insN
 split
 ·rename_i h
  simp at h
  constructor
  ·exact .inr
  ·rintro (rfl | h')
   ·exact h
   ·exact h'
 ·simp
theorem mem_foldl_insN : ∀ (xs acc : List Nat) (j : Nat),j ∈ xs.foldl insN acc ↔ j ∈ xs ∨ j ∈ acc
 | [],acc,j => by simp
 | x :: xs,acc,j => by
  rw [List.foldl_cons,mem_foldl_insN xs (insN acc x) j,mem_insN]
  simp
  constructor
  ·rintro (h | h | h)
   ·exact .inl (.inr h)
   ·exact .inl (.inl h)
   ·exact .inr h
  ·rintro ((h | h) | h)
   ·exact .inr (.inl h)
   ·exact .inl h
   ·exact .inr (.inr h)
def Closed (ops : List Oper) (l : Nat → Bool) : Prop:= ∀ i o,ops[i]? = some o → l i = true → ∀ e ∈ edgesOf o,l e = true
theorem befs_spec {l : Nat → Bool} : ∀ (os pre : List Oper) (acc : List (List Nat)),Closed (pre ++ os) l → acc.length = pre.length →
  (∀ i o,pre[i]? = some o → (∀ e ∈ edgesOf o,l e = true) → ∀ k ∈ acc.getD i [],l k = true) →
  ∀ i o,(pre ++ os)[i]? = some o → (∀ e ∈ edgesOf o,l e = true) → ∀ k ∈ (befs os acc).getD i [],l k = true
 | [],pre,acc,hc,hl,h => by
  simp only [befs,List.append_nil]
  exact h
 | o :: os,pre,acc,hc,hl,h => by
  have:= befs_spec (l:= l) os (pre ++ [o]) (acc ++ [((edgesOf o).flatMap fun e => e :: acc.getD e []).foldl insN []]) (by simpa using hc) (by simp [hl]) ?_
  ·simp only [List.append_assoc,List.cons_append,List.nil_append] at this
   simp only [befs]
   exact this
  ·intro i q hq he k hk
   by_cases hi : i < pre.length
   ·rw [List.getElem?_append_left hi] at hq
    rw [List.getD_eq_getElem?_getD,List.getElem?_append_left (by omega),← List.getD_eq_getElem?_getD] at hk
    exact h i q hq he k hk
   ·have hi2 : i = pre.length:= by
     have:= (List.getElem?_eq_some_iff.1 hq).1
     simp at this
     omega
    subst hi2
    rw [List.getElem?_append_right (Nat.le_refl _)] at hq
    simp at hq
    subst hq
    rw [List.getD_eq_getElem?_getD,List.getElem?_append_right (by omega)] at hk
    simp only [hl,Nat.sub_self,List.getElem?_cons_zero,Option.getD_some] at hk
    rw [mem_foldl_insN] at hk
    rcases hk with hk | hk
    ·obtain ⟨e,hee,hk⟩:= List.mem_flatMap.1 hk
     rcases List.mem_cons.1 hk with rfl | hk
     ·exact he _ hee
     ·have hle:= he e hee
      by_cases hep : e < pre.length
      ·have hpe : pre[e]? = some pre[e]:= List.getElem?_eq_getElem hep
       refine h e _ hpe (fun e' he' => hc e pre[e] ?_ hle e' he') k hk
       rw [List.getElem?_append_left hep]
       exact hpe
      ·rw [List.getD_eq_getElem?_getD,List.getElem?_eq_none (by omega)] at hk
       simp at hk
    ·cases hk
section
variable {P : Program} {R : RE} {N : Nat} {env : Env} {a : Act} {E : RE}
def remI (listed : Array Bool) (n : Nat) : List Nat:= (List.range n).filter fun i => !listed.getD i true
theorem range_split {n i : Nat} (hi : i < n) : List.range n = List.range i ++ i :: List.range' (i + 1) (n - i - 1):= by
 have h:= List.range'_append_1 (s:= 0) (m:= i) (n:= n - i - 1 + 1)
 rw [List.range_eq_range',List.range_eq_range',← List.range'_succ]
 rw [Nat.zero_add] at h
 rw [h]
 congr 1
 omega
theorem count_set {listed : Array Bool} {n i : Nat} (hn : listed.size = n) (hi : i < n) (hu : listed.getD i true = false) :
  ∃ pre post,remI listed n = pre ++ i :: post ∧ remI (listed.setIfInBounds i true) n = pre ++ post ∧ ∀ k ∈ pre,k < i ∧ listed.getD k true = false:= by
 refine ⟨(List.range i).filter fun k => !listed.getD k true,(List.range' (i + 1) (n - i - 1)).filter fun k => !listed.getD k true,?_,?_,?_⟩
 ·unfold remI
  have e : List.range n = List.range i ++ i :: List.range' (i + 1) (n - i - 1):= by
   exact range_split hi
  rw [e,List.filter_append,List.filter_cons,if_pos (by simp [hu])]
 ·unfold remI
  have e : List.range n = List.range i ++ i :: List.range' (i + 1) (n - i - 1):= by
   exact range_split hi
  have hself : (listed.setIfInBounds i true).getD i true = true:= by
   rw [Array.getD_eq_getD_getElem?,Array.getElem?_setIfInBounds]
   simp [hn,hi]
  have hother : ∀ k,k ≠ i → (listed.setIfInBounds i true).getD k true = listed.getD k true:= by
   intro k hk
   rw [Array.getD_eq_getD_getElem?,Array.getElem?_setIfInBounds_ne (Ne.symm hk),← Array.getD_eq_getD_getElem?]
  rw [e,List.filter_append,List.filter_cons,if_neg (by simp [hself])]
  congr 1
  ·exact List.filter_congr fun k hk => by rw [hother k (by have:= List.mem_range.1 hk; omega)]
  ·exact List.filter_congr fun k hk => by rw [hother k (by have:= (List.mem_range'_1.1 hk).1; omega)]
 ·intro k hk
  obtain ⟨h1,h2⟩:= List.mem_filter.1 hk
  exact ⟨List.mem_range.1 h1,by simpa using h2⟩
theorem wpAny_aw (hR : R.Start) {ops : Array Oper} (hok : okDraw P ops = true) (hd : ∀ (j : Nat) (o : Oper) (k : Nat),ops[j]? = some o → o.dst = some k → k < N) {KE : Env → Prop} {Q : Exit → Act → World → Prop}
  (hQ : ∀ a' E' env',KE env' → Inv R N env' a' E' → Q .normal a' E'.w) :
  ∀ (fuel : Nat) (listed : Array Bool) (env : Env) (a : Act) (E : RE),Inv R N env a E → listed.size = ops.size → (remI listed ops.size).length ≤ fuel → Closed ops.toList (fun i => listed.getD i true) →
   awOpsD P ((remI listed ops.size).map fun i => (ops.toList.map (resOperD P ops)).getD i default) env KE → wpAny P .any ops Q fuel listed a E.w:= by
 simp only [okDraw,List.all_eq_true,Bool.and_eq_true] at hok
 have hedge : ∀ i o,ops[i]? = some o → ∀ e ∈ edgesOf o,e < i:= by
  intro i o ho e he
  have:= (hok i (List.mem_range.2 (Array.getElem?_eq_some_iff.1 ho).1)).1
  rw [ho] at this
  simp only [List.all_eq_true,decide_eq_true_eq] at this
  exact this e he
 have hcomm : ∀ i,i < ops.size → ∀ k,k < i → ((befs ops.toList []).getD i []).contains k = true ∨ comm ((ops.toList.map (resOperD P ops)).getD k default) ((ops.toList.map (resOperD P ops)).getD i default) = true:= by
  intro i hi k hk
  have:= (hok i (List.mem_range.2 hi)).2 k (List.mem_range.2 hk)
  simpa using this
 have hready : ∀ (listed : Array Bool) i,i ∈ Region.ready .any ops listed ↔ ∃ o,ops[i]? = some o ∧ listed.getD i true = false ∧ ∀ e ∈ edgesOf o,listed.getD e false = true:= by
  intro listed i
  unfold Region.ready
  rw [List.mem_filter]
  constructor
  ·rintro ⟨h1,h2⟩
   have hi:= List.mem_range.1 h1
   simp only [Bool.and_eq_true] at h2
   obtain ⟨h2,h3⟩:= h2
   rw [Array.getElem?_eq_getElem hi] at h3
   simp only [Option.map_some,Option.getD_some,Array.all_eq_true_iff_forall_mem] at h3
   refine ⟨ops[i],Array.getElem?_eq_getElem hi,by simpa using h2,fun e he => ?_⟩
   obtain ⟨e',he',rfl⟩:= List.mem_map.1 he
   obtain ⟨h4,h5⟩:= List.mem_filter.1 he'
   have:= h3 e' (by simpa using h4)
   simpa [h5] using this
  ·rintro ⟨o,ho,h1,h2⟩
   have hi:= (Array.getElem?_eq_some_iff.1 ho).1
   refine ⟨List.mem_range.2 hi,?_⟩
   rw [ho]
   simp only [Bool.and_eq_true,Option.map_some,Option.getD_some,Array.all_eq_true_iff_forall_mem]
   refine ⟨by simpa using h1,fun e he => ?_⟩
   cases hb : Region.binds .any e with
   | false => simp
   | true =>
    have:= h2 e.on (List.mem_map.2 ⟨e,List.mem_filter.2 ⟨by simpa using he,hb⟩,rfl⟩)
    simpa using this
 intro fuel
 induction fuel with
 | zero =>
  intro listed env a E hI hsz hfuel hcl h
  have hnil : remI listed ops.size = []:= List.eq_nil_of_length_eq_zero (by omega)
  rw [hnil] at h
  refine ⟨?_,hQ a E env h hI⟩
  rw [List.eq_nil_iff_forall_not_mem]
  intro i hi
  obtain ⟨o,ho,hu,_⟩:= (hready listed i).1 hi
  have : i ∈ remI listed ops.size:= List.mem_filter.2 ⟨List.mem_range.2 (Array.getElem?_eq_some_iff.1 ho).1,by simp [hu]⟩
  rw [hnil] at this
  cases this
 | succ fuel ih =>
  intro listed env a E hI hsz hfuel hcl h
  have inb : ∀ e,e < ops.size → listed.getD e false = listed.getD e true:= by
   intro e he
   rw [Array.getD_eq_getD_getElem?,Array.getD_eq_getD_getElem?,Array.getElem?_eq_getElem (by omega)]
   simp
  refine ⟨fun hr => ?_,fun i hi => ?_⟩
  ·cases hrem : remI listed ops.size with
   | nil => rw [hrem] at h; exact hQ a E env h hI
   | cons i rest =>
    have himem : i ∈ remI listed ops.size:= by rw [hrem]; simp
    obtain ⟨hi1,hi2⟩:= List.mem_filter.1 himem
    have hin:= List.mem_range.1 hi1
    have hiu : listed.getD i true = false:= by simpa using hi2
    obtain ⟨pre,post,e1,_,e3⟩:= count_set hsz hin hiu
    have hpre : pre = []:= by
     cases pre with
     | nil => rfl
     | cons k pre =>
      rw [hrem] at e1
      simp only [List.cons_append,List.cons.injEq] at e1
      have:= (e3 k (by simp)).1
      omega
    have : i ∈ Region.ready .any ops listed:= by
     rw [hready]
     refine ⟨ops[i],Array.getElem?_eq_getElem hin,hiu,fun e he => ?_⟩
     have hlt:= hedge i ops[i] (Array.getElem?_eq_getElem hin) e he
     rw [inb e (by omega)]
     cases hle : listed.getD e true with
     | true => rfl
     | false =>
      exfalso
      have hmem : e ∈ remI listed ops.size:= List.mem_filter.2 ⟨List.mem_range.2 (by omega),by simp [hle]⟩
      obtain ⟨pre2,post2,e4,_,_⟩:= count_set hsz (show e < ops.size by omega) hle
      obtain ⟨pre',post',e5,_,e6⟩:= count_set hsz hin hiu
      subst hpre
      have hsorted : (remI listed ops.size).Pairwise (· < ·):= by
       unfold remI
       exact List.Pairwise.filter _ List.pairwise_lt_range
      rw [hrem] at hsorted hmem
      rcases List.mem_cons.1 hmem with rfl | hmem
      ·omega
      ·have:= (List.pairwise_cons.1 hsorted).1 e hmem
       omega
    rw [hr] at this
    cases this
  ·obtain ⟨o,ho,hu,hall⟩:= (hready listed i).1 hi
   have hin:= (Array.getElem?_eq_some_iff.1 ho).1
   obtain ⟨pre,post,e1,e2,e3⟩:= count_set hsz hin hu
   have hLi : (ops.toList.map (resOperD P ops)).getD i default = resOperD P ops o:= by
    rw [List.getD_eq_getElem?_getD,List.getElem?_map,Array.getElem?_toList,ho]
    rfl
   rw [e1,List.map_append,List.map_cons,hLi] at h
   have hall' : ∀ e ∈ edgesOf o,listed.getD e true = true:= fun e he => by rw [← inb e (by have:= hedge i o ho e he; omega)]; exact hall e he
   have hbub:= bubble (pre.map fun k => (ops.toList.map (resOperD P ops)).getD k default) env (fun p hp => by
    obtain ⟨k,hk,rfl⟩:= List.mem_map.1 hp
    obtain ⟨hki,hku⟩:= e3 k hk
    rcases hcomm i hin k hki with hb | hb
    ·exfalso
     have hsp:= befs_spec (l:= fun i => listed.getD i true) ops.toList [] [] hcl rfl (by simp) i o (by simpa using ho) hall' k (by simpa using hb)
     rw [hku] at hsp
     cases hsp
    ·rw [hLi] at hb
     exact hb) h
   rw [← List.map_append,← e2] at hbub
   have hdst : (resOperD P ops o).dst = o.dst:= by
    show (resOper P ops o).dst = o.dst
    unfold resOper
    split <;> rfl
   refine wpOp_awD hI hR ho hd (KE:= fun env' => awOpsD P ((remI (listed.setIfInBounds i true) ops.size).map fun i => (ops.toList.map (resOperD P ops)).getD i default) env' KE) ?_ fun v E' env' hk hI' => ?_
   ·have h2:= hbub.2
    unfold awG at h2
    rw [hdst] at h2
    exact h2
   ·refine ih _ env' _ E' hI' (by simpa using hsz) ?_ ?_ hk
    ·rw [e2]
     have:= congrArg List.length e1
     simp at this ⊢
     omega
    ·intro j q hq hj e he
     have hq' : ops[j]? = some q:= by simpa using hq
     simp only at hj ⊢
     have mono : listed.getD e true = true → (listed.setIfInBounds i true).getD e true = true:= by
      intro h
      rw [Array.getD_eq_getD_getElem?] at h ⊢
      rw [Array.getElem?_setIfInBounds]
      split
      ·split <;> simp
      ·exact h
     by_cases hji : j = i
     ·subst hji
      rw [ho] at hq'
      injection hq' with hq'
      subst hq'
      exact mono (hall' e he)
     ·have hj' : listed.getD j true = true:= by
       rw [Array.getD_eq_getD_getElem?,Array.getElem?_setIfInBounds_ne (Ne.symm hji),← Array.getD_eq_getD_getElem?] at hj
       exact hj
      exact mono (hcl j q hq hj' e he)
def allocs (l : List AOper) : List Nat:= l.filterMap fun o => match o.op with | .alloc _ | .box _ => o.dst | _ => none
def Env.freshL (E : Env) : List Nat → Env
 | [] => E
 | d :: ds => (E.fresh d).freshL ds
theorem Inv.freshL : ∀ (ds : List Nat) {env : Env} {E : RE},Inv R N env a E → ∃ E',E'.w = E.w ∧ Inv R N (env.freshL ds) a E'
 | [],env,E,h => ⟨E,rfl,h⟩
 | d :: ds,env,E,h => by
  obtain ⟨E1,h1,h2,_⟩:= h.fresh d
  obtain ⟨E2,h3,h4⟩:= Inv.freshL ds h2
  exact ⟨E2,h3.trans h1,h4⟩
theorem wp_draw_aw (hI : Inv R N env a E) (hR : R.Start) (hm : P.follows .mixedOrders = true) {id : Nat} {ops : Array Oper} (hok : okDraw P ops = true) (hd : ∀ (j : Nat) (o : Oper) (k : Nat),ops[j]? = some o → o.dst = some k → k < N)
  {KE : Env → Prop} {Q : Exit → Act → World → Prop} (h : awOpsD P (ops.toList.map (resOperD P ops)) (env.freshL (allocs (ops.toList.map (resOperD P ops)))) KE)
  (hQ : ∀ a' E' env',KE env' → Inv R N env' a' E' → Q .normal a' E'.w) : (Code.region id ops true).wp P Q a E.w:= by
 obtain ⟨E1,h1,h2⟩:= hI.drew.freshL (allocs (ops.toList.map (resOperD P ops)))
 have hw : { E.w with drawn:= E.w.drawn + 1 } = E1.w:= by rw [h1]; rfl
 refine wp_region_any hm ?_
 rw [hw]
 have hrem : remI (Array.replicate ops.size false) ops.size = List.range ops.size:= by
  unfold remI
  rw [List.filter_eq_self]
  intro i hi
  have:= List.mem_range.1 hi
  simp [Array.getD_eq_getD_getElem?,this]
 refine wpAny_aw hR hok hd hQ ops.size _ _ a E1 h2 (by simp) (by rw [hrem]; simp) ?_ ?_
 ·intro i o ho hi
  have hlt : i < ops.size:= by have:= (List.getElem?_eq_some_iff.1 ho).1; simpa using this
  simp [Array.getD_eq_getD_getElem?,hlt] at hi
 ·rw [hrem]
  have : (List.range ops.size).map (fun i => (ops.toList.map (resOperD P ops)).getD i default) = ops.toList.map (resOperD P ops):= by
   apply List.ext_getElem?
   intro j
   by_cases hj : j < ops.size
   ·simp [List.getElem?_map,hj,List.getD_eq_getElem?_getD]
   ·simp [hj]
  rw [this]
  exact h
end
end Go.Proofs.YtnndbbmidoidpaaGreatDoor.VL
end

section
namespace Go.Proofs.YtnndbbmidoidpaaGreatDoor.VL
open Go.RowKit
inductive ATree where
 | done
 | take (i : Nat) (t : ATree)
 | alt (i : Nat) (t r : ATree)
 | non
 deriving Inhabited
def readyL (deps : List (List Nat)) (l : List Nat) : List Nat:= (List.range deps.length).filter fun i => !l.contains i && (deps.getD i []).all fun e => l.contains e
def callN (p o : AOper) : Bool :=
 (match o.op with | .callm .. => true | .callvm .. => true | _ => false) &&
 (match p.cls with | .n => true | _ => false) &&
 (match p.dst with | some d => !o.reads.contains d && o.dst != some d | none => true) &&
 (match o.dst with | some d => !p.reads.contains d | none => true)
def commX (p o : AOper) : Bool:= comm p o || callN p o
def isN (p : AOper) : Bool:= match p.cls with | .n => true | _ => false
def rootsT : ATree → List Nat
 | .alt i _ r => i :: rootsT r
 | _ => []
mutual
def chkT (ops : List AOper) (deps : List (List Nat)) : Nat → List Nat → ATree → Bool
 | _,l,.done => (readyL deps l).isEmpty
 | 0,_,_ => false
 | f + 1,l,.take i t => (readyL deps l).contains i && isN (ops.getD i default) && ((List.range deps.length).all fun j => j == i || l.contains j || (deps.getD j []).contains i || commX (ops.getD i default) (ops.getD j default)) && chkT ops deps f (i :: l) t
 | f + 1,l,.alt i t r => (readyL deps l).contains i && ((readyL deps l).all fun j => j == i || (rootsT r).contains j) && chkT ops deps f (i :: l) t && chkR ops deps f l r
 | _ + 1,_,.non => false
def chkR (ops : List AOper) (deps : List (List Nat)) : Nat → List Nat → ATree → Bool
 | f,l,.alt i t r => chkT ops deps f (i :: l) t && chkR ops deps f l r
 | _,_,.non => true
 | _,_,_ => false
end
def awT (P : Program) (ops : List AOper) : ATree → Env → (Env → Prop) → Prop
 | .done,E,K => K E
 | .take i t,E,K => awD P (ops.getD i default) E fun E' => awT P ops t E' K
 | .alt i t r,E,K => (awD P (ops.getD i default) E fun E' => awT P ops t E' K) ∧ awT P ops r E K
 | .non,_,_ => True
def awAny (P : Program) (ops : List AOper) (deps : List (List Nat)) : Nat → List Nat → Env → (Env → Prop) → Prop
 | 0,l,E,K => readyL deps l = [] ∧ K E
 | f + 1,l,E,K => (readyL deps l = [] → K E) ∧ ∀ i ∈ readyL deps l,awD P (ops.getD i default) E fun E' => awAny P ops deps f (i :: l) E' K
section
variable {P : Program} {ops : List AOper} {deps : List (List Nat)} {K : Env → Prop}
theorem mem_readyL {l : List Nat} {i : Nat} : i ∈ readyL deps l ↔ i < deps.length ∧ i ∉ l ∧ ∀ e ∈ deps.getD i [],e ∈ l:= by
 unfold readyL
 rw [List.mem_filter,List.mem_range]
 simp only [Bool.and_eq_true,Bool.not_eq_true',List.all_eq_true,List.contains_iff_mem,← Bool.not_eq_true]
theorem readyL_congr {l l' : List Nat} (h : ∀ k,k ∈ l ↔ k ∈ l') : readyL deps l = readyL deps l':= by
 unfold readyL
 refine List.filter_congr fun i _ => ?_
 have e : ∀ k,l.contains k = l'.contains k:= fun k => by rw [Bool.eq_iff_iff,List.contains_iff_mem,List.contains_iff_mem]; exact h k
 simp only [e]
theorem awAny_congr : ∀ (f : Nat) {l l' : List Nat} {E : Env},(∀ k,k ∈ l ↔ k ∈ l') → awAny P ops deps f l E K → awAny P ops deps f l' E K
 | 0,l,l',E,h,hk => by
  simp only [awAny] at hk ⊢
  rw [← readyL_congr h]
  exact hk
 | f + 1,l,l',E,h,hk => by
  simp only [awAny] at hk ⊢
  rw [← readyL_congr h]
  exact ⟨hk.1,fun i hi => awD_mono (fun E' h' => awAny_congr f (fun k => by simp [h k]) h') (hk.2 i hi)⟩
theorem readyL_mono {l : List Nat} {i j : Nat} (hj : j ∈ readyL deps l) (hne : j ≠ i) : j ∈ readyL deps (i :: l):= by
 rw [mem_readyL] at hj ⊢
 exact ⟨hj.1,by simp [hne,hj.2.1],fun e he => List.mem_cons_of_mem _ (hj.2.2 e he)⟩
theorem callN_spec {p o : AOper} (h : callN p o = true) : (∃ f l,o.op = .callm f l ∨ ∃ x,o.op = .callvm x l) ∧ p.cls = .n ∧ (∀ k ∈ o.reads,p.dst ≠ some k) ∧ (∀ d,p.dst = some d → o.dst ≠ some d) ∧ (∀ k ∈ p.reads,o.dst ≠ some k):= by
 unfold callN at h
 simp only [Bool.and_eq_true] at h
 obtain ⟨⟨⟨h1,h2⟩,h3⟩,h4⟩:= h
 refine ⟨?_,?_,?_,?_,?_⟩
 ·cases ho : o.op <;> rw [ho] at h1 <;> first | cases h1 | skip
  ·exact ⟨_,_,.inl rfl⟩
  ·exact ⟨0,_,.inr ⟨_,rfl⟩⟩
 ·cases hp : p.cls <;> rw [hp] at h2 <;> first | rfl | cases h2
 ·intro k hk e
  rw [e] at h3
  simp only [Bool.and_eq_true,Bool.not_eq_true'] at h3
  have:= h3.1
  rw [← Bool.not_eq_true,List.contains_iff_mem] at this
  exact this hk
 ·intro d hd e
  rw [hd] at h3
  simp only [Bool.and_eq_true,bne_iff_ne,ne_eq] at h3
  exact h3.2 e
 ·intro k hk e
  rw [e] at h4
  simp only [Bool.not_eq_true'] at h4
  rw [← Bool.not_eq_true,List.contains_iff_mem] at h4
  exact h4 hk
theorem backC_putO (m : List (Nat × Nat)) (c1 : List (Nat × List AV)) (E : Env) (d : Option Nat) (x : AV) : backC m c1 (E.putO d x) = (backC m c1 E).putO d x:= by
 cases d <;> rfl
theorem ev_putO {E : Env} {d : Option Nat} {x : AV} {y : Operand} (h : ∀ k ∈ opSlots [y],d ≠ some k) : (E.putO d x).ev y = E.ev y:= by
 cases y with
 | tmp t => exact putO_s (h t (by simp [opSlots]))
 | _ => cases d <;> rfl
theorem map_ev_putO {E : Env} {d : Option Nat} {x : AV} : ∀ {l : List Operand},(∀ k ∈ opSlots l,d ≠ some k) → l.map (E.putO d x).ev = l.map E.ev
 | [],_ => rfl
 | y :: l,h => by
  rw [List.map_cons,List.map_cons,ev_putO fun k hk => h k (by unfold opSlots at hk ⊢; rw [List.mem_filterMap] at hk ⊢; obtain ⟨z,hz,e⟩:= hk; exact ⟨z,by simp at hz; simp [hz],e⟩),map_ev_putO fun k hk => h k (by unfold opSlots at hk ⊢; rw [List.mem_filterMap] at hk ⊢; obtain ⟨z,hz,e⟩:= hk; exact ⟨z,by simp [hz],e⟩)]
theorem swapN {p o : AOper} (h : callN p o = true) {E : Env} {K : Env → Prop} (hp : awD P p E fun E1 => awD P o E1 K) : awD P o E fun E1 => awD P p E1 K := by
  obtain ⟨hop, hpn, c1, c2, c3⟩ := callN_spec h
  have c2' : ∀ d, o.dst = some d → p.dst ≠ some d := fun d hd hpd => c2 d hpd hd
  obtain ⟨x, hx, hco, ho⟩ := (awG_val (.inl hpn)).1 hp.2
  have ocls : o.cls = .x := by
    obtain ⟨f, l, e | ⟨y, e⟩⟩ := hop <;> simp [AOper.cls, e]
  have np : ∀ F : Env, clean p F := fun F e => by rw [hpn] at e; cases e
  have no : ∀ F : Env, clean o F := fun F e => by rw [ocls] at e; cases e
  refine ⟨no E, ?_⟩
  have fin : ∀ (F : Env) (y : AV), (∀ k ∈ p.reads, F.s k = E.s k) → K ((F.putO p.dst x).putO o.dst y) → awD P p (F.putO o.dst y) K := fun F y hF hk => by
    refine ⟨np _, (awG_val (.inl hpn)).2 ⟨x, gval_n hpn (fun k hk => ?_) hx, ?_⟩⟩
    · rw [putO_s (c3 k hk), hF k hk]
    · rw [putO_putO c2']
      exact hk
  have sub : ∀ {k : Nat} {l : List Operand}, (∀ k ∈ opSlots (opnds o.op), k ∈ o.reads) := fun {k l} k hk => reads_op hk
  have op : ∀ (Kx : Env → Prop), awOp P o (E.putO p.dst x) K → awOp P o E fun E1 => awD P p E1 K := by
    intro _ hh
    obtain ⟨f, l, e | ⟨g, e⟩⟩ := hop
    · have hl : l.map (E.putO p.dst x).ev = l.map E.ev := map_ev_putO fun k hk => c1 k (reads_op (by rw [e]; exact hk))
      unfold awOp at hh ⊢
      rw [e] at hh ⊢
      simp only [hl, putO_c] at hh ⊢
      rcases hh with ⟨as, r, h1, h2, h3⟩ | ⟨m, as, c0, r, c1', h1, h2, h3, h4, h5⟩
      · exact .inl ⟨as, r, h1, h2, fin E _ (fun _ _ => rfl) h3⟩
      · refine .inr ⟨m, as, c0, r, c1', h1, h2, h3, h4, fin (backC m c1' E) _ (fun _ _ => rfl) ?_⟩
        rw [backC_putO] at h5
        exact h5
    · have hl : l.map (E.putO p.dst x).ev = l.map E.ev := map_ev_putO fun k hk => c1 k (reads_op (by rw [e]; unfold opnds opSlots; simp only [List.filterMap_cons]; split <;> first | exact hk | exact List.mem_cons_of_mem _ hk))
      have hg : (E.putO p.dst x).ev g = E.ev g := ev_putO fun k hk => c1 k (reads_op (by
        rw [e]
        unfold opSlots at hk ⊢
        rw [List.mem_filterMap] at hk ⊢
        obtain ⟨z, hz, ez⟩ := hk
        exact ⟨z, by simp at hz; simp [opnds, hz], ez⟩))
      unfold awOp at hh ⊢
      rw [e] at hh ⊢
      simp only [hl, hg, putO_c] at hh ⊢
      obtain ⟨f', fst, caps, h0, hh⟩ := hh
      refine ⟨f', fst, caps, h0, ?_⟩
      rcases hh with ⟨as, r, h1, h2, h3⟩ | ⟨m, as, c0, r, c1', h1, h2, h3, h4, h5⟩
      · exact .inl ⟨as, r, h1, h2, fin E _ (fun _ _ => rfl) h3⟩
      · refine .inr ⟨m, as, c0, r, c1', h1, h2, h3, h4, fin (backC m c1' E) _ (fun _ _ => rfl) ?_⟩
        rw [backC_putO] at h5
        exact h5
  unfold awG at ho ⊢
  split at ho
  · exact op K ho
  · rename_i s w hgd
    obtain ⟨t, ht, h1, h2⟩ := ho
    have hs : (E.putO p.dst x).s s = E.s s := putO_s (c1 s (reads_guard hgd))
    exact ⟨t, by rw [← hs]; exact ht, fun e => op K (h1 e), fun e => fin E _ (fun _ _ => rfl) (h2 e)⟩
theorem swapX {p o : AOper} (h : commX p o = true) {E : Env} {K : Env → Prop} (hp : awD P p E fun E1 => awD P o E1 K) : awD P o E fun E1 => awD P p E1 K:= by
 unfold commX at h
 rw [Bool.or_eq_true] at h
 rcases h with h | h
 ·exact swap h hp
 ·exact swapN h hp
theorem take_any {i : Nat} (hn : (ops.getD i default).cls = .n) : ∀ (f : Nat) {l : List Nat} {E : Env},i ∈ readyL deps l → (∀ j,j < deps.length → j ≠ i → j ∉ l → i ∉ deps.getD j [] → commX (ops.getD i default) (ops.getD j default) = true) →
  awD P (ops.getD i default) E (fun E' => awAny P ops deps f (i :: l) E' K) → awAny P ops deps (f + 1) l E K
 | 0,l,E,hi,hc,h => by
  simp only [awAny]
  refine ⟨fun e => by rw [e] at hi; simp at hi,fun j hj => ?_⟩
  by_cases hji : j = i
  ·subst hji
   exact h
  ·exfalso
   obtain ⟨x,_,h1,_⟩:= (awG_val (.inl hn)).1 h.2
   have:= readyL_mono hj hji
   rw [h1] at this
   cases this
 | f + 1,l,E,hi,hc,h => by
  rw [awAny]
  refine ⟨fun e => by rw [e] at hi; simp at hi,fun j hj => ?_⟩
  by_cases hji : j = i
  ·subst hji
   exact h
  ·have h1 : awD P (ops.getD i default) E fun E1 => awD P (ops.getD j default) E1 fun E2 => awAny P ops deps f (j :: i :: l) E2 K:= awD_mono (fun E1 h1 => by
    rw [awAny] at h1
    exact h1.2 j (readyL_mono hj hji)) h
   have hj':= mem_readyL.1 hj
   have hcj : commX (ops.getD i default) (ops.getD j default) = true:= hc j hj'.1 hji hj'.2.1 fun e => (mem_readyL.1 hi).2.1 (hj'.2.2 i e)
   refine awD_mono (fun E1 h2 => take_any hn f (l:= j :: l) (readyL_mono hi (Ne.symm hji)) (fun k hk hki hkl hkd => hc k hk hki (fun e => hkl (List.mem_cons_of_mem _ e)) hkd) (awD_mono (fun E2 h3 => awAny_congr f (fun k => ?_) h3) h2)) (swapX hcj h1)
   simp only [List.mem_cons]
   exact ⟨fun h => by rcases h with h | h | h <;> simp [h],fun h => by rcases h with h | h | h <;> simp [h]⟩
mutual
theorem tree_any : ∀ (t : ATree) (f : Nat) {l : List Nat} {E : Env},chkT ops deps f l t = true → awT P ops t E K → awAny P ops deps f l E K
 | .done,f,l,E,hc,h => by
  have hr : readyL deps l = []:= by
   cases f <;> simp only [chkT,List.isEmpty_iff] at hc <;> exact hc
  cases f with
  | zero => exact ⟨hr,h⟩
  | succ f => exact ⟨fun _ => h,fun i hi => by rw [hr] at hi; cases hi⟩
 | .take i t,0,l,E,hc,h => by simp [chkT] at hc
 | .take i t,f + 1,l,E,hc,h => by
  simp only [chkT,Bool.and_eq_true] at hc
  obtain ⟨⟨⟨h1,h2⟩,h3⟩,h4⟩:= hc
  have hn : (ops.getD i default).cls = .n:= by
   unfold isN at h2
   split at h2
   ·assumption
   ·cases h2
  refine take_any hn f (by simpa using h1) (fun j hj hji hjl hjd => ?_) (awD_mono (fun E' h' => tree_any t f h4 h') h)
  have:= List.all_eq_true.1 h3 j (List.mem_range.2 hj)
  simp only [Bool.or_eq_true,beq_iff_eq,List.contains_iff_mem] at this
  rcases this with ((e | e) | e) | e
  ·exact absurd e hji
  ·exact absurd e hjl
  ·exact absurd e hjd
  ·exact e
 | .alt i t r,0,l,E,hc,h => by simp [chkT] at hc
 | .alt i t r,f + 1,l,E,hc,h => by
  simp only [chkT,Bool.and_eq_true] at hc
  obtain ⟨⟨⟨h0,h1⟩,h2⟩,h3⟩:= hc
  simp only [awT] at h
  rw [awAny]
  have hmem : ∀ j ∈ readyL deps l,j = i ∨ j ∈ rootsT r:= fun j hj => by
   have:= List.all_eq_true.1 h1 j hj
   simpa using this
  have ht : awD P (ops.getD i default) E fun E' => awAny P ops deps f (i :: l) E' K:= awD_mono (fun E' h' => tree_any t f h2 h') h.1
  have hall : ∀ j ∈ readyL deps l,awD P (ops.getD j default) E fun E' => awAny P ops deps f (j :: l) E' K:= fun j hj => by
   rcases hmem j hj with rfl | hj'
   ·exact ht
   ·exact tree_alts r f h3 h.2 j hj'
  exact ⟨fun e => by rw [e] at h0; simp at h0,hall⟩
 | .non,0,l,E,hc,h => by simp [chkT] at hc
 | .non,f + 1,l,E,hc,h => by simp [chkT] at hc
theorem tree_alts : ∀ (t : ATree) (f : Nat) {l : List Nat} {E : Env},chkR ops deps f l t = true → awT P ops t E K → ∀ j ∈ rootsT t,awD P (ops.getD j default) E fun E' => awAny P ops deps f (j :: l) E' K
 | .alt i t r,f,l,E,hc,h,j,hj => by
  simp only [chkR,Bool.and_eq_true] at hc
  simp only [awT] at h
  simp only [rootsT,List.mem_cons] at hj
  rcases hj with rfl | hj
  ·exact awD_mono (fun E' h' => tree_any t f hc.1 h') h.1
  ·exact tree_alts r f hc.2 h.2 j hj
 | .non,f,l,E,hc,h,j,hj => by simp [rootsT] at hj
 | .done,f,l,E,hc,h,j,hj => by simp [rootsT] at hj
 | .take i t,f,l,E,hc,h,j,hj => by simp [rootsT] at hj
end
theorem ready_iff {ops : Array Oper} {listed : Array Bool} {i : Nat} : i ∈ Region.ready .any ops listed ↔ ∃ o,ops[i]? = some o ∧ listed.getD i true = false ∧ ∀ e ∈ edgesOf o,listed.getD e false = true:= by
 unfold Region.ready
 rw [List.mem_filter]
 constructor
 ·rintro ⟨h1,h2⟩
  have hi:= List.mem_range.1 h1
  simp only [Bool.and_eq_true] at h2
  obtain ⟨h2,h3⟩:= h2
  rw [Array.getElem?_eq_getElem hi] at h3
  simp only [Option.map_some,Option.getD_some,Array.all_eq_true_iff_forall_mem] at h3
  refine ⟨ops[i],Array.getElem?_eq_getElem hi,by simpa using h2,fun e he => ?_⟩
  obtain ⟨e',he',rfl⟩:= List.mem_map.1 he
  obtain ⟨h4,h5⟩:= List.mem_filter.1 he'
  have:= h3 e' (by simpa using h4)
  simpa [h5] using this
 ·rintro ⟨o,ho,h1,h2⟩
  have hi:= (Array.getElem?_eq_some_iff.1 ho).1
  refine ⟨List.mem_range.2 hi,?_⟩
  rw [ho]
  simp only [Bool.and_eq_true,Option.map_some,Option.getD_some,Array.all_eq_true_iff_forall_mem]
  refine ⟨by simpa using h1,fun e he => ?_⟩
  cases hb : Region.binds .any e with
  | false => simp
  | true =>
   have:= h2 e.on (List.mem_map.2 ⟨e,List.mem_filter.2 ⟨by simpa using he,hb⟩,rfl⟩)
   simpa using this
structure Lists (n : Nat) (listed : Array Bool) (l : List Nat) : Prop where
 size : listed.size = n
 lt : ∀ k ∈ l,k < n
 eq : ∀ k,k < n → (listed.getD k true = true ↔ k ∈ l)
theorem Lists.ready {ops : Array Oper} {listed : Array Bool} {l : List Nat} (h : Lists ops.size listed l) (i : Nat) : i ∈ Region.ready .any ops listed ↔ i ∈ readyL (ops.toList.map edgesOf) l:= by
 rw [ready_iff,mem_readyL]
 simp only [List.length_map,Array.length_toList]
 have inb : ∀ e,listed.getD e false = true ↔ e ∈ l:= fun e => by
  by_cases he : e < ops.size
  ·rw [← h.eq e he,Array.getD_eq_getD_getElem?,Array.getD_eq_getD_getElem?,Array.getElem?_eq_getElem (by rw [h.size]; exact he)]
   simp
  ·constructor
   ·intro hh
    rw [Array.getD_eq_getD_getElem?,Array.getElem?_eq_none (by rw [h.size]; omega)] at hh
    simp at hh
   ·intro hh
    exact absurd (h.lt e hh) he
 constructor
 ·rintro ⟨o,ho,h1,h2⟩
  have hi:= (Array.getElem?_eq_some_iff.1 ho).1
  refine ⟨hi,fun hh => ?_,fun e he => (inb e).1 (h2 e ?_)⟩
  ·rw [(h.eq i hi).2 hh] at h1
   cases h1
  ·rw [List.getD_eq_getElem?_getD,List.getElem?_map,Array.getElem?_toList,ho] at he
   exact he
 ·rintro ⟨hi,h1,h2⟩
  refine ⟨ops[i],Array.getElem?_eq_getElem hi,?_,fun e he => (inb e).2 (h2 e ?_)⟩
  ·cases hq : listed.getD i true with
   | false => rfl
   | true => exact absurd ((h.eq i hi).1 hq) h1
  ·rw [List.getD_eq_getElem?_getD,List.getElem?_map,Array.getElem?_toList,Array.getElem?_eq_getElem hi]
   exact he
theorem Lists.set {n : Nat} {listed : Array Bool} {l : List Nat} (h : Lists n listed l) {i : Nat} (hi : i < n) : Lists n (listed.setIfInBounds i true) (i :: l):= by
 refine ⟨by simpa using h.size,fun k hk => ?_,fun k hk => ?_⟩
 ·rcases List.mem_cons.1 hk with rfl | hk
  ·exact hi
  ·exact h.lt k hk
 ·by_cases hki : k = i
  ·subst hki
   rw [Array.getD_eq_getD_getElem?,Array.getElem?_setIfInBounds]
   simp [h.size,hi]
  ·rw [Array.getD_eq_getD_getElem?,Array.getElem?_setIfInBounds_ne (Ne.symm hki),← Array.getD_eq_getD_getElem?,h.eq k hk]
   simp [hki]
end
section
variable {P : Program} {R : RE} {N : Nat}
theorem wpAny_any (hR : R.Start) {ops : Array Oper} (hd : ∀ (j : Nat) (o : Oper) (k : Nat),ops[j]? = some o → o.dst = some k → k < N) {KE : Env → Prop} {Q : Exit → Act → World → Prop}
  (hQ : ∀ a' E' env',KE env' → Inv R N env' a' E' → Q .normal a' E'.w) :
  ∀ (fuel : Nat) (listed : Array Bool) (l : List Nat) (env : Env) (a : Act) (E : RE),Inv R N env a E → Lists ops.size listed l →
   awAny P (ops.toList.map (resOperT P ops)) (ops.toList.map edgesOf) fuel l env KE → wpAny P .any ops Q fuel listed a E.w
 | 0,listed,l,env,a,E,hI,hl,h => by
  simp only [awAny] at h
  refine ⟨?_,hQ a E env h.2 hI⟩
  rw [List.eq_nil_iff_forall_not_mem]
  intro i hi
  rw [hl.ready i,h.1] at hi
  cases hi
 | fuel + 1,listed,l,env,a,E,hI,hl,h => by
  rw [awAny] at h
  refine ⟨fun e => hQ a E env (h.1 ?_) hI,fun i hi => ?_⟩
  ·rw [List.eq_nil_iff_forall_not_mem]
   intro i hi
   rw [← hl.ready i,e] at hi
   cases hi
  ·obtain ⟨o,ho,_,_⟩:= ready_iff.1 hi
   have hin:= (Array.getElem?_eq_some_iff.1 ho).1
   have h2:= h.2 i ((hl.ready i).1 hi)
   have hLi : (ops.toList.map (resOperT P ops)).getD i default = resOperT P ops o:= by
    rw [List.getD_eq_getElem?_getD,List.getElem?_map,Array.getElem?_toList,ho]
    rfl
   rw [hLi] at h2
   have hdst : (resOperT P ops o).dst = o.dst:= by
    show (resOper P ops o).dst = o.dst
    unfold resOper
    split <;> rfl
   refine wpOp_awT hI hR ho hd (KE:= fun env' => awAny P (ops.toList.map (resOperT P ops)) (ops.toList.map edgesOf) fuel (i :: l) env' KE) ?_ fun v E' env' hk hI' => wpAny_any hR hd hQ fuel _ (i :: l) env' _ E' hI' (hl.set hin) hk
   have h3:= h2.2
   unfold awG at h3
   rw [hdst] at h3
   exact h3
theorem wp_draw_tree {env : Env} {a : Act} {E : RE} (hI : Inv R N env a E) (hR : R.Start) (hm : P.follows .mixedOrders = true) {id : Nat} {ops : Array Oper} (hd : ∀ (j : Nat) (o : Oper) (k : Nat),ops[j]? = some o → o.dst = some k → k < N)
  {t : ATree} (hc : chkT (ops.toList.map (resOperT P ops)) (ops.toList.map edgesOf) ops.size [] t = true) {KE : Env → Prop} {Q : Exit → Act → World → Prop}
  (h : awT P (ops.toList.map (resOperT P ops)) t (env.freshL (allocs (ops.toList.map (resOperT P ops)))) KE)
  (hQ : ∀ a' E' env',KE env' → Inv R N env' a' E' → Q .normal a' E'.w) : (Code.region id ops true).wp P Q a E.w:= by
 obtain ⟨E1,h1,h2⟩:= hI.drew.freshL (allocs (ops.toList.map (resOperT P ops)))
 have hw : { E.w with drawn:= E.w.drawn + 1 } = E1.w:= by rw [h1]; rfl
 refine wp_region_any hm ?_
 rw [hw]
 refine wpAny_any hR hd hQ ops.size _ [] _ a E1 h2 ⟨by simp,fun k hk => by simp at hk,fun k hk => ?_⟩ (tree_any t ops.size hc h)
 simp [Array.getD_eq_getD_getElem?,hk]
end
end Go.Proofs.YtnndbbmidoidpaaGreatDoor.VL
end

