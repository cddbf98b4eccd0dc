/- The value logic, part 12: contracts, and calls by contract. -/
import Derived.Test.YtbjmeeoebloofaaVL11
import Derived.Test.YtbjmeeoebloofaaVL0
set_option linter.unusedVariables false
set_option linter.unusedSimpArgs false
namespace Go.Proofs.Ytbjmeeoebloofaa.VL
open Go.RowKit

def mapO {α β : Type} (f : α → Option β) : List α → Option (List β)
  | [] => some []
  | x :: xs => match f x with
    | some y => match mapO f xs with
      | some ys => some (y :: ys)
      | none => none
    | none => none

def lowTok : Tok → Tok
  | .own _ => .none
  | t => t

/-- What a callee is handed: its caller's local cells as they read now. -/
def lower (C : Nat → Option (List AV)) : Nat → AV → Option AV
  | 0, _ => none
  | n + 1, x => match x with
    | .sl t e rows => some (.sl (lowTok t) e rows)
    | .agg cs => match mapO (lower C n) cs with
      | some l => some (.agg l)
      | none => none
    | .lp c o => match C c with
      | some cs => match mapO (lower C n) (cs.drop o) with
        | some l => some (.bp l)
        | none => none
      | none => none
    | .clo f a b => match mapO (lower C n) a with
      | some l => match mapO (lower C n) b with
        | some m => some (.clo f l m)
        | none => none
      | none => none
    | .ifc t v => match lower C n v with
      | some u => some (.ifc t u)
      | none => none
    | .tup _ => none
    | x => some x

/-- What a function hands back: its local cells frozen. -/
def retv (C : Nat → Option (List AV)) (keep : Bool) : Nat → AV → Option AV
  | 0, _ => none
  | n + 1, x => match x with
    | .lit v => some (.lit v)
    | .gl i => some (.gl i)
    | .mp k v => some (.mp k v)
    | .rp cs => some (.rp cs)
    | .sl t e rows => match t with
      | .bor => none
      | .own τ => if keep then some (.sl (.own τ) e rows) else some (.sl .none e rows)
      | t => some (.sl t e rows)
    | .agg cs => match mapO (retv C keep n) cs with
      | some l => some (.agg l)
      | none => none
    | .tup cs => match mapO (retv C keep n) cs with
      | some l => some (.tup l)
      | none => none
    | .ifc t v => match retv C keep n v with
      | some u => some (.ifc t u)
      | none => none
    | .lp c o => match C c with
      | some cs => match mapO (retv C false n) (cs.drop o) with
        | some l => some (.rp l)
        | none => none
      | none => none
    | _ => none

mutual
/-- May a value leave a call? -/
def resOK : AV → Bool
  | .lit _ => true
  | .gl _ => true
  | .mp _ _ => true
  | .rp _ => true
  | .sl .bor _ _ => false
  | .sl _ _ _ => true
  | .agg cs => resOKL cs
  | .tup cs => resOKL cs
  | .ifc _ v => resOK v
  | _ => false
def resOKL : List AV → Bool
  | [] => true
  | x :: xs => resOK x && resOKL xs
end

mutual
/-- A call's owners' marks get the call's own name in front. -/
def retag (d : Nat) : AV → AV
  | .sl (.own t) e rows => .sl (.own (d :: t)) e rows
  | .agg cs => .agg (retagL d cs)
  | .tup cs => .tup (retagL d cs)
  | .ifc t v => .ifc t (retag d v)
  | x => x
def retagL (d : Nat) : List AV → List AV
  | [] => []
  | x :: xs => retag d x :: retagL d xs
end

/-- A reading from which a call may begin. -/
structure RE.Start (R : RE) : Prop where
  base : R.base = R.w.heap.size
  loc : ∀ c, R.loc c = none
  own : ∀ g τ, ¬ R.own g τ
  S : ∀ b o, R.S b o → b < R.w.heap.size
  glob : ∀ g ∈ GS, R.w.cell? ⟨g, 0, none⟩ = some (.iface (R.G g).1 (.pointer (some (R.G g).2)))

/-- What is left behind a call. -/
structure After (R E : RE) : Prop where
  below : Below R.w.heap.size R.w E.w
  S0 : ∀ b o, b < R.w.heap.size → (E.S b o ↔ R.S b o)
  Slt : ∀ b o, E.S b o → b < E.w.heap.size
  G : E.G = R.G
  ownlt : ∀ g τ, E.own g τ → R.w.heap.size ≤ g ∧ g < E.w.heap.size
  own1 : ∀ g τ τ', E.own g τ → E.own g τ' → τ = τ'

/-- A function of the program's own text. -/
def Enters (P : Program) (f : FuncId) : Prop := ∀ (args : Array Value) (w : World), (callFunc f args).run P w = .ok (.enter f args) w

/-- THE CONTRACT: called with what 'args' tell, 'f' answers what 'r' tells, and leaves all that was there as it was. -/
structure AC (P : Program) (f : FuncId) (args : List AV) (r : AV) : Prop where
  res : resOK r = true
  enters : Enters P f
  calls : ∀ (R : RE) (cargs : List Value), R.Start → RepL R args cargs → Calls P f cargs.toArray R.w fun e w' => ∃ v E', e = .returned v ∧ E'.w = w' ∧ Rep E' r v ∧ After R E'

theorem enters_of {P : Program} {f : FuncId} {fn : Func} (hf : P.funcs[f]? = some fn) (hn : (fn.name == "runtime.NumGoroutine") = false) (hb : fn.body.isNone = false) : Enters P f := by
  intro args w
  unfold callFunc
  have hn' : ¬ (fn.name = "runtime.NumGoroutine") := by simpa using hn
  have hb' : ¬ (fn.body = none) := fun e => by rw [e] at hb; cases hb
  simp [program, Sem.run, Bind.bind, Sem.bind, hf, hn', hb', Pure.pure]

section
variable {P : Program} {R : RE} {N : Nat} {env : Env} {a : Act} {E : RE}

/-- The reading that a callee begins with. -/
def RE.callee (E : RE) : RE := { E with base := E.w.heap.size, loc := fun _ => none, own := fun _ _ => False }

theorem Inv.glob (h : Inv R N env a E) (hR : R.Start) : ∀ g ∈ GS, E.w.cell? ⟨g, 0, none⟩ = some (.iface (E.G g).1 (.pointer (some (E.G g).2))) := by
  intro g hg
  have := hR.glob g hg
  have hlt := World.block_lt_of_cell? R.w _ this
  rw [h.below.cell (p := ⟨g, 0, none⟩) hlt, this, h.G]

theorem Inv.start (h : Inv R N env a E) (hR : R.Start) : E.callee.Start :=
  ⟨rfl, fun _ => rfl, fun _ _ h => h, h.Slt, h.glob hR⟩

theorem mapO_rep {E E' : RE} {f : AV → Option AV} : ∀ {xs ys : List AV} {vs : List Value}, (∀ x y v, f x = some y → Rep E x v → Rep E' y v) → mapO f xs = some ys → RepL E xs vs → RepL E' ys vs
  | [], ys, vs, _, h, hr => by
    simp only [mapO] at h
    injection h with h
    subst h
    simpa only [RepL] using hr
  | x :: xs, ys, vs, hf, h, hr => by
    simp only [mapO] at h
    split at h
    case h_2 => cases h
    rename_i y hy
    split at h
    case h_2 => cases h
    rename_i ys' hys
    injection h with h
    subst h
    simp only [RepL] at hr ⊢
    obtain ⟨v, ws, rfl, h1, h2⟩ := hr
    exact ⟨v, ws, rfl, hf _ _ _ hy h1, mapO_rep hf hys h2⟩

theorem Inv.ext_callee (h : Inv R N env a E) : Ext E.bor E.callee := by
  refine ⟨fun _ _ h => h, ?_, fun _ _ _ _ hc => hc, fun _ _ _ _ hc => hc, fun c b hc => by simp [RE.bor] at hc, fun g τ hg => (hg : False).elim, rfl⟩
  show E.base ≤ E.w.heap.size
  rw [h.base]
  exact h.below.size

theorem callee_closed (E : RE) : E.callee.closed = E.closed := rfl
theorem callee_bor (E : RE) : E.callee.bor = E.callee := rfl

theorem lower_rep (h : Inv R N env a E) : ∀ (n : Nat) {x y : AV} {v : Value}, lower env.c n x = some y → Rep E x v → Rep E.callee y v
  | 0, x, y, v, hl, hr => by simp [lower] at hl
  | n + 1, x, y, v, hl, hr => by
    have ih : ∀ x y v, lower env.c n x = some y → Rep E x v → Rep E.callee y v := fun x y v => lower_rep h n
    cases x with
    | lit u => simp only [lower] at hl; injection hl with hl; subst hl; simpa only [Rep] using hr
    | gl i => simp only [lower] at hl; injection hl with hl; subst hl; simp only [Rep] at hr ⊢; exact hr
    | gp g => simp only [lower] at hl; injection hl with hl; subst hl; simpa only [Rep] using hr
    | dead => simp only [lower] at hl; injection hl with hl; subst hl; simp only [Rep]
    | mp k vs => simp only [lower] at hl; injection hl with hl; subst hl; simp only [Rep, callee_closed] at hr ⊢; exact hr
    | rp cs => simp only [lower] at hl; injection hl with hl; subst hl; simp only [Rep, callee_closed] at hr ⊢; exact hr
    | tup cs => simp [lower] at hl
    | bp cs =>
      simp only [lower] at hl
      injection hl with hl
      subst hl
      simp only [Rep, callee_bor] at hr ⊢
      obtain ⟨b, o, vs, rfl, h1, h2⟩ := hr
      refine ⟨b, o, vs, rfl, h1.mono h.ext_callee, h2.mono (fun b o hb => ?_) fun _ _ _ _ hc => hc⟩
      have hb' : b < E.base := hb
      have h1 := h.base
      have h2 := h.below.size
      show b < E.w.heap.size
      omega
    | sl t e rows =>
      simp only [lower] at hl
      injection hl with hl
      subst hl
      simp only [Rep, callee_closed] at hr ⊢
      obtain ⟨A, cap, vs, rfl, hcap, hrr, he, ho, ht⟩ := hr
      refine ⟨A, cap, vs, rfl, hcap, hrr, he, ho, ?_⟩
      cases t with
      | none => exact ht
      | nil => exact ht
      | bor =>
        intro hne
        obtain ⟨b, o, hA, hat⟩ := ht hne
        refine ⟨b, o, hA, hat.mono (fun b o hb => ?_) fun _ _ _ _ hc => hc⟩
        have hb' : b < E.base := hb
        have h1 := h.base
        have h2 := h.below.size
        show b < E.w.heap.size
        omega
      | own τ =>
        intro hne
        rcases ht with ⟨_, h0⟩ | ⟨g, cur, ty, hA, hat, _⟩
        · exact absurd (List.eq_nil_of_length_eq_zero (by omega)) hne
        · exact ⟨g, 0, hA, hat⟩
    | agg cs =>
      simp only [lower] at hl
      split at hl
      · rename_i l hml
        injection hl with hl
        subst hl
        simp only [Rep] at hr ⊢
        obtain ⟨vs, rfl, hr⟩ := hr
        exact ⟨vs, rfl, mapO_rep ih hml hr⟩
      · cases hl
    | clo f p q =>
      simp only [lower] at hl
      split at hl
      · rename_i l hml
        split at hl
        · rename_i m hmm
          injection hl with hl
          subst hl
          simp only [Rep] at hr ⊢
          obtain ⟨fs, cs, rfl, h1, h2⟩ := hr
          exact ⟨fs, cs, rfl, mapO_rep ih hml h1, mapO_rep ih hmm h2⟩
        · cases hl
      · cases hl
    | ifc t u =>
      simp only [lower] at hl
      split at hl
      · rename_i l hml
        injection hl with hl
        subst hl
        simp only [Rep] at hr ⊢
        obtain ⟨w, rfl, h1⟩ := hr
        exact ⟨w, rfl, ih _ _ _ hml h1⟩
      · cases hl
    | lp c o =>
      simp only [lower] at hl
      split at hl
      · rename_i cs hcs
        split at hl
        · rename_i l hml
          injection hl with hl
          subst hl
          simp only [Rep] at hr
          obtain ⟨b, hb, rfl⟩ := hr
          obtain ⟨h1, h2, h3, cs', vals, ty, hcs', hh, hrr, _⟩ := h.locc c b hb
          rw [hcs] at hcs'
          injection hcs' with hcs'
          subst hcs'
          simp only [Rep, callee_bor]
          refine ⟨b, o, vals.toList.drop o, rfl, mapO_rep ih hml (hrr.drop o), fun j u hj => ⟨lt_of_heap hh, ?_⟩⟩
          rw [List.getElem?_drop] at hj
          show E.w.cell? _ = _
          simp [World.cell?, hh]
          simpa using hj
        · cases hl
      · cases hl

mutual
theorem retag_rep {E E' : RE} (d : Nat) (hx : Ext E.closed E'.closed) (ho : ∀ g τ, E.own g τ → E'.own g (d :: τ)) (hw : E'.w = E.w) (hS : E'.S = E.S) (hG : E'.G = E.G) : ∀ {x : AV} {v : Value}, resOK x = true → Rep E x v → Rep E' (retag d x) v
  | .lit u, v, _, h => by simpa only [retag, Rep] using h
  | .gl i, v, _, h => by simp only [retag, Rep] at h ⊢; rw [hG]; exact h
  | .mp k vs, v, _, h => by
    simp only [retag]
    simp only [Rep] at h ⊢
    obtain ⟨b, es, ck, vs', rfl, hh, hs, hk, hv, hr⟩ := h
    exact ⟨b, es, ck, vs', rfl, by rw [hw]; exact hh, by rw [hS]; exact hs, hk, hv, hr.mono hx⟩
  | .rp cs, v, _, h => by
    simp only [retag]
    simp only [Rep] at h ⊢
    obtain ⟨b, o, vs, rfl, hr, hat⟩ := h
    exact ⟨b, o, vs, rfl, hr.mono hx, by rw [hw, hS]; exact hat⟩
  | .sl .none e rows, v, _, h => by
    simp only [retag]
    simp only [Rep] at h ⊢
    obtain ⟨A, cap, vs, rfl, hcap, hr, he, h1, ht⟩ := h
    exact ⟨A, cap, vs, rfl, hcap, hr.mono hx, he, h1, by rw [hw, hS]; exact ht⟩
  | .sl .nil e rows, v, _, h => by
    simp only [retag]
    simp only [Rep] at h ⊢
    obtain ⟨A, cap, vs, rfl, hcap, hr, he, h1, ht⟩ := h
    exact ⟨A, cap, vs, rfl, hcap, hr.mono hx, he, h1, ht⟩
  | .sl .bor e rows, v, hk, h => by simp [resOK] at hk
  | .sl (.own τ) e rows, v, _, h => by
    simp only [retag]
    simp only [Rep] at h ⊢
    obtain ⟨A, cap, vs, rfl, hcap, hr, he, h1, ht⟩ := h
    refine ⟨A, cap, vs, rfl, hcap, hr.mono hx, he, h1, ?_⟩
    rcases ht with ht | ⟨g, cur, ty, ha, hat, hh, hm, hc, hown, hs⟩
    · exact .inl ht
    · exact .inr ⟨g, cur, ty, ha, by rw [hw, hS]; exact hat, by rw [hw]; exact hh, hm, hc, ho g τ hown, by rw [hS]; exact hs⟩
  | .agg cs, v, hk, h => by
    simp only [resOK] at hk
    simp only [retag, Rep] at h ⊢
    obtain ⟨vs, rfl, h⟩ := h
    exact ⟨vs, rfl, retagL_rep d hx ho hw hS hG hk h⟩
  | .tup cs, v, hk, h => by
    simp only [resOK] at hk
    simp only [retag, Rep] at h ⊢
    obtain ⟨vs, rfl, h⟩ := h
    exact ⟨vs, rfl, retagL_rep d hx ho hw hS hG hk h⟩
  | .ifc t x, v, hk, h => by
    simp only [resOK] at hk
    simp only [retag, Rep] at h ⊢
    obtain ⟨u, rfl, h⟩ := h
    exact ⟨u, rfl, retag_rep d hx ho hw hS hG hk h⟩
  | .bp cs, v, hk, h => by simp [resOK] at hk
  | .lp c o, v, hk, h => by simp [resOK] at hk
  | .clo f p q, v, hk, h => by simp [resOK] at hk
  | .gp g, v, hk, h => by simp [resOK] at hk
  | .dead, v, hk, h => by simp [resOK] at hk
theorem retagL_rep {E E' : RE} (d : Nat) (hx : Ext E.closed E'.closed) (ho : ∀ g τ, E.own g τ → E'.own g (d :: τ)) (hw : E'.w = E.w) (hS : E'.S = E.S) (hG : E'.G = E.G) : ∀ {xs : List AV} {vs : List Value}, resOKL xs = true → RepL E xs vs → RepL E' (retagL d xs) vs
  | [], vs, _, h => by simpa only [retagL, RepL] using h
  | x :: xs, vs, hk, h => by
    simp only [resOKL, Bool.and_eq_true] at hk
    simp only [retagL, RepL] at h ⊢
    obtain ⟨v, ws, rfl, h1, h2⟩ := h
    exact ⟨v, ws, rfl, retag_rep d hx ho hw hS hG hk.1 h1, retagL_rep d hx ho hw hS hG hk.2 h2⟩
end

/-- Behind a call by contract. -/
theorem Inv.afterCall (h : Inv R N env a E) {E1 : RE} (ha : After E.callee E1) (d : Nat) {r : AV} {v : Value} (hk : resOK r = true) (hr : Rep E1 r v) :
    ∃ E', E'.w = E1.w ∧ Inv R N env a E' ∧ Rep E' (retag d r) v := by
  let E' : RE := { E with w := E1.w, S := E1.S, own := fun g t => E.own g t ∨ ∃ τ, t = d :: τ ∧ E1.own g τ }
  have hsz : E.w.heap.size ≤ E1.w.heap.size := ha.below.size
  have hold : ∀ b, b < E.w.heap.size → E1.w.heap[b]? = E.w.heap[b]? := ha.below.block
  have hS0 : ∀ b o, b < E.w.heap.size → (E1.S b o ↔ E.S b o) := ha.S0
  have hownlt : ∀ g τ, E1.own g τ → E.w.heap.size ≤ g ∧ g < E1.w.heap.size := ha.ownlt
  have hx : Ext E E' := by
    refine ⟨fun b o hs => (hS0 b o (h.Slt b o hs)).2 hs, Nat.le_refl _, fun b o u hb hc => ?_, fun b es ck hb hc => ?_, fun c b hc => hc, fun g τ hg => ⟨.inl hg, ?_, fun o hs => ?_⟩, rfl⟩
    · have hlt : b < E.w.heap.size := hb.elim (h.Slt b o) fun hb => by have := h.base; have := h.below.size; omega
      show E1.w.cell? _ = _
      simp only [World.cell?, hold b hlt]
      exact hc
    · exact (hold b (h.Slt b 0 hb)).trans hc
    · exact hold g (h.ownlt g τ hg).2
    · exact (hS0 g o (h.ownlt g τ hg).2).1 hs
  have hbel : Below R.w.heap.size R.w E1.w := h.below.trans (ha.below.mono h.below.size)
  have hG : E1.G = E.G := ha.G
  refine ⟨E', rfl, ⟨h.defers, h.size, h.base, hbel, h.G, fun b o hb => ?_, ha.Slt, fun g t ht => ?_, fun g t t' h1 h2 => ?_, fun c b hb => ?_, h.locd, h.loc1, fun k => (h.slots k).mono hx⟩, ?_⟩
  · have := h.below.size
    rw [← h.S0 b o hb]
    exact hS0 b o (by omega)
  · rcases ht with ht | ⟨τ, rfl, ht⟩
    · have := h.ownlt g t ht; exact ⟨this.1, by show g < E1.w.heap.size; omega⟩
    · have := hownlt g τ ht; have := h.below.size; exact ⟨by omega, by show g < E1.w.heap.size; omega⟩
  · rcases h1 with h1 | ⟨τ, rfl, h1⟩ <;> rcases h2 with h2 | ⟨τ', rfl, h2⟩
    · exact h.own1 g t t' h1 h2
    · have := (h.ownlt g _ h1).2; have := (hownlt g _ h2).1; omega
    · have := (h.ownlt g _ h2).2; have := (hownlt g _ h1).1; omega
    · rw [ha.own1 g τ τ' h1 h2]
  · obtain ⟨h1, h2, h3, cs, vals, ty, hcs, hh, hrr, ho⟩ := h.locc c b hb
    have hlt := lt_of_heap hh
    refine ⟨h1, fun o hs => h2 o ((hS0 b o hlt).1 hs), fun t ht => ?_, cs, vals, ty, hcs, (hold b hlt).trans hh, hrr.mono hx, ho⟩
    rcases ht with ht | ⟨τ, rfl, ht⟩
    · exact h3 t ht
    · have := (hownlt b τ ht).1; omega
  · refine retag_rep (E' := E') d ?_ (fun g τ hg => Or.inr ⟨τ, rfl, hg⟩) rfl rfl hG.symm hk hr
    refine ⟨fun _ _ h => h, Nat.le_refl _, fun _ _ _ _ hc => hc, fun _ _ _ _ hc => hc, fun c b hc => by simp [RE.closed] at hc, fun g τ hg => (hg : False).elim, hG.symm⟩

/-- A call of a function, by its contract. -/
theorem wp_callF (hI : Inv R N env a E) (hR : R.Start) {o : Oper} {f : FuncId} {cargs : List Value} {args : List AV} {r : AV} (hex : (execOp a.eval o).run P E.w = (callFunc f cargs.toArray).run P E.w)
    (hargs : RepL E.callee args cargs) (hac : AC P f args r) {K : Act → World → Prop} {Q : Exit → Act → World → Prop}
    (hK : ∀ v E', Inv R N env a E' → Rep E' (retag (o.dst.getD 0) r) v → K (a.put o.dst v) E'.w) : o.wp P a E.w K Q := by
  unfold Oper.wp
  rw [hex, hac.enters, Oper.upon_enter]
  refine (hac.calls E.callee cargs (hI.start hR) hargs).mono ?_
  rintro e w' ⟨v, E1, rfl, rfl, hr, ha⟩
  obtain ⟨E', hw, hI', hr'⟩ := hI.afterCall ha (o.dst.getD 0) hac.res hr
  have := hK v E' hI' hr'
  rw [hw] at this
  exact this

end
end Go.Proofs.Ytbjmeeoebloofaa.VL
