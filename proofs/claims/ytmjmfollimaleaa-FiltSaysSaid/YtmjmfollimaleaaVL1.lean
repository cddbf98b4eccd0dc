/- The value logic, part 1: abstract values, what they say of values in a world, and how that is kept. -/
import Derived.Test.YtmjmfollimaleaaVL0
import Derived.Orders
import Derived.Below
import Derived.Laws.AppendOwn
import Derived.KernelRfl
set_option linter.unusedVariables false
set_option linter.unusedSimpArgs false
namespace Go.Proofs.Ytmjmfollimaleaa.VL
open Go.RowKit

/-- What is known of a slice's spare room. -/
inductive Tok where
  | none
  | nil
  | bor
  | own (t : List Nat)
  | fr (t : List Nat)
  | gone
  deriving DecidableEq

/-- Abstract values: what is in memory is told as a tree. -/
inductive AV where
  | lit (v : Value)
  | agg (cs : List AV)
  | tup (cs : List AV)
  | sl (t : Tok) (e : Nat) (rows : List AV)
  | rp (cs : List AV)
  | bp (cs : List AV)
  | lp (c off : Nat)
  | clo (fn : Fn) (fst caps : List AV)
  | ifc (t : TypeId) (v : AV)
  | mp (keys : List Value) (vals : List AV)
  | gl (i : Nat)
  | gp (g : Nat)
  | ml (c off n cap : Nat) (agg : Bool) (e : Nat)
  | mu (c : List Nat) (keys : List Value) (vals : List AV)
  | mf (t : List Nat) (al : Bool)
  | dead
  deriving Inhabited

/-- What the reading of an abstract value hangs on. -/
structure RE where
  w : World
  S : Nat → Nat → Prop
  B : Nat → Prop
  loc : Nat → Option Nat
  own : Nat → List Nat → Prop
  G : Nat → TypeId × Addr
  mloc : List Nat → Option Nat

def RE.closed (E : RE) : RE := { E with B := fun _ => False, loc := fun _ => none, own := fun _ _ => False, mloc := fun _ => none }
def RE.bor (E : RE) : RE := { E with loc := fun _ => none, own := fun _ _ => False, mloc := fun _ => none }

/-- These cells stand at that place, where nothing is written any more. -/
def At (w : World) (S : Nat → Nat → Prop) (cs : List Value) (b o : Nat) : Prop :=
  ∀ j u, cs[j]? = some u → S b (o + j) ∧ w.cell? ⟨b, o + j, none⟩ = some u

def flat (vs : List Value) : List Value := vs.flatMap fun v => v.cells.toList

mutual
def Rep : RE → AV → Value → Prop
  | _, .lit u, v => v = u
  | E, .agg cs, v => ∃ vs : List Value, v = .agg vs.toArray ∧ RepL E cs vs
  | E, .tup cs, v => ∃ vs : List Value, v = .tuple vs.toArray ∧ RepL E cs vs
  | E, .sl t e rows, v => ∃ A cap vs, v = .slice A rows.length cap ∧ rows.length ≤ cap ∧ RepL E.closed rows vs ∧ (∀ u ∈ vs, u.cells.size = e) ∧ (∀ u ∈ flat vs, u.oneCell' = true) ∧
      match t with
      | .none => rows ≠ [] → ∃ b o, A = some ⟨b, o, none⟩ ∧ At E.w E.S (flat vs) b o
      | .bor => rows ≠ [] → ∃ b o, A = some ⟨b, o, none⟩ ∧ At E.w (fun b _ => E.B b) (flat vs) b o
      | .nil => A = none ∧ cap = 0
      | .own τ => (A = none ∧ cap = 0) ∨ ∃ g cur ty, A = some ⟨g, 0, none⟩ ∧ At E.w E.S (flat vs) g 0 ∧ E.w.heap[g]? = some (.cells cur ty (0, 0)) ∧ cap ≤ maxLen ∧ cur.size = cap * e ∧
          E.own g τ ∧ ∀ o, E.S g o → o < rows.length * e
      | .fr τ => (rows = [] ∧ cap = 0) ∨ ∃ g cur ty, A = some ⟨g, 0, none⟩ ∧ At E.w (fun _ _ => True) (flat vs) g 0 ∧ E.w.heap[g]? = some (.cells cur ty (0, 0)) ∧ cap ≤ maxLen ∧ cur.size = cap * e ∧
          E.own g τ ∧ (∀ o, ¬ E.S g o) ∧ ∀ u ∈ cur.toList, u.oneCell' = true
      | .gone => True
  | E, .rp cs, v => ∃ b o vs, v = .pointer (some ⟨b, o, none⟩) ∧ RepL E.closed cs vs ∧ At E.w E.S vs b o
  | E, .bp cs, v => ∃ b o vs, v = .pointer (some ⟨b, o, none⟩) ∧ RepL E.bor cs vs ∧ At E.w (fun b _ => E.B b) vs b o
  | E, .lp c off, v => ∃ b, E.loc c = some b ∧ v = .pointer (some ⟨b, off, none⟩)
  | E, .clo fn fst caps, v => ∃ fs cs : List Value, v = .func fn fs.toArray cs.toArray ∧ RepL E fst fs ∧ RepL E caps cs
  | E, .ifc t x, v => ∃ u, v = .iface t u ∧ Rep E x u
  | E, .mp keys vals, v => ∃ (b : Nat) (es : List MapEntry) (ck : Nat) (vs : List Value), v = .map (some b) ∧ E.w.heap[b]? = some (.map es.toArray ck) ∧ E.S b 0 ∧ es.map (·.key) = keys ∧
      es.map (·.val) = vs ∧ RepL E.closed vals vs
  | E, .gl i, v => i ∈ GS ∧ v = .iface (E.G i).1 (.pointer (some (E.G i).2))
  | _, .gp g, v => v = .pointer (some ⟨g, 0, none⟩)
  | E, .ml c off n cap _ _, v => ∃ b, E.loc c = some b ∧ v = .slice (some ⟨b, off, none⟩) n cap
  | E, .mu c keys vals, v => ∃ (b : Nat) (es : List MapEntry) (ck : Nat) (vs : List Value), E.mloc c = some b ∧ v = .map (some b) ∧ E.w.heap[b]? = some (.map es.toArray ck) ∧ es.map (·.key) = keys ∧
      es.map (·.val) = vs ∧ RepL E.closed vals vs
  | E, .mf τ al, v => ∃ b : Nat, v = .map (some b) ∧ (al = true → (∃ ck, E.w.heap[b]? = some (.map #[] ck)) ∧ E.own b τ ∧ ∀ o, ¬ E.S b o)
  | _, .dead, _ => True
def RepL : RE → List AV → List Value → Prop
  | _, [], vs => vs = []
  | E, x :: xs, vs => ∃ v ws, vs = v :: ws ∧ Rep E x v ∧ RepL E xs ws
end

theorem RepL.length {E : RE} : ∀ {xs : List AV} {vs : List Value}, RepL E xs vs → vs.length = xs.length
  | [], vs, h => by simp only [RepL] at h; simp [h]
  | x :: xs, vs, h => by
    simp only [RepL] at h
    obtain ⟨v, ws, rfl, _, h2⟩ := h
    simp [RepL.length h2]

/-- One reading lives on in another one. -/
structure Ext (E E' : RE) : Prop where
  S : ∀ b o, E.S b o → E'.S b o
  B : ∀ b, E.B b → E'.B b
  cell : ∀ b o u, (E.S b o ∨ E.B b) → E.w.cell? ⟨b, o, none⟩ = some u → E'.w.cell? ⟨b, o, none⟩ = some u
  map : ∀ b es ck, E.S b 0 → E.w.heap[b]? = some (.map es ck) → E'.w.heap[b]? = some (.map es ck)
  loc : ∀ c b, E.loc c = some b → E'.loc c = some b
  own : ∀ g τ, E.own g τ → E'.own g τ ∧ E'.w.heap[g]? = E.w.heap[g]? ∧ ∀ o, E'.S g o → E.S g o
  G : E'.G = E.G
  mloc : ∀ c b, E.mloc c = some b → E'.mloc c = some b ∧ E'.w.heap[b]? = E.w.heap[b]?

theorem Ext.refl (E : RE) : Ext E E := ⟨fun _ _ h => h, fun _ h => h, fun _ _ _ _ h => h, fun _ _ _ _ h => h, fun _ _ h => h, fun _ _ h => ⟨h, rfl, fun _ h => h⟩, rfl, fun _ _ h => ⟨h, rfl⟩⟩

theorem Ext.closed {E E' : RE} (h : Ext E E') : Ext E.closed E'.closed :=
  ⟨h.S, fun _ hb => hb, fun b o u hb hc => h.cell b o u (hb.elim .inl fun hb => hb.elim) hc, h.map, fun c b hc => (by simp [RE.closed] at hc), fun g τ ho => (ho : False).elim, h.G, fun c b hc => (by simp [RE.closed] at hc)⟩

theorem Ext.bor {E E' : RE} (h : Ext E E') : Ext E.bor E'.bor :=
  ⟨h.S, h.B, h.cell, h.map, fun c b hc => (by simp [RE.bor] at hc), fun g τ ho => (ho : False).elim, h.G, fun c b hc => (by simp [RE.bor] at hc)⟩

theorem At.mono {w w' : World} {S S' : Nat → Nat → Prop} {cs : List Value} {b o : Nat} (h : At w S cs b o)
    (hS : ∀ b o, S b o → S' b o) (hc : ∀ b o u, S b o → w.cell? ⟨b, o, none⟩ = some u → w'.cell? ⟨b, o, none⟩ = some u) : At w' S' cs b o :=
  fun j u hj => ⟨hS _ _ (h j u hj).1, hc _ _ _ (h j u hj).1 (h j u hj).2⟩

mutual
theorem Rep.mono : ∀ {x : AV} {E E' : RE} {v : Value}, Ext E E' → Rep E x v → Rep E' x v
  | .lit u, E, E', v, _, h => by simpa only [Rep] using h
  | .agg cs, E, E', v, hE, h => by
    simp only [Rep] at h ⊢
    obtain ⟨vs, rfl, h⟩ := h
    exact ⟨vs, rfl, RepL.mono hE h⟩
  | .tup cs, E, E', v, hE, h => by
    simp only [Rep] at h ⊢
    obtain ⟨vs, rfl, h⟩ := h
    exact ⟨vs, rfl, RepL.mono hE h⟩
  | .sl t e rows, E, E', v, hE, h => by
    simp only [Rep] at h ⊢
    obtain ⟨A, cap, vs, rfl, hcap, hr, he, h1, ht⟩ := h
    refine ⟨A, cap, vs, rfl, hcap, RepL.mono hE.closed hr, he, h1, ?_⟩
    cases t with
    | none => exact fun hne => let ⟨b, o, ha, hat⟩ := ht hne; ⟨b, o, ha, hat.mono hE.S fun b o u hs => hE.cell b o u (.inl hs)⟩
    | bor => exact fun hne => let ⟨b, o, ha, hat⟩ := ht hne; ⟨b, o, ha, hat.mono (fun b o h => hE.B b h) fun b o u hs => hE.cell b o u (.inr hs)⟩
    | nil => exact ht
    | own τ =>
      rcases ht with ht | ⟨g, cur, ty, ha, hat, hh, hm, hc, ho, hs⟩
      · exact .inl ht
      obtain ⟨ho', hh', hs'⟩ := hE.own g τ ho
      exact .inr ⟨g, cur, ty, ha, hat.mono hE.S fun b o u hs => hE.cell b o u (.inl hs), hh'.trans hh, hm, hc, ho', fun o h => hs o (hs' o h)⟩
    | gone => trivial
    | fr τ =>
      rcases ht with ht | ⟨g, cur, ty, ha, hat, hh, hm, hc, ho, hs, h1c⟩
      · exact .inl ht
      obtain ⟨ho', hh', hs'⟩ := hE.own g τ ho
      refine .inr ⟨g, cur, ty, ha, fun j u hj => ⟨trivial, ?_⟩, hh'.trans hh, hm, hc, ho', fun o h => hs o (hs' o h), h1c⟩
      have := (hat j u hj).2
      simp only [World.cell?, hh', hh] at this ⊢
      exact this
  | .rp cs, E, E', v, hE, h => by
    simp only [Rep] at h ⊢
    obtain ⟨b, o, vs, rfl, h, hat⟩ := h
    exact ⟨b, o, vs, rfl, RepL.mono hE.closed h, hat.mono hE.S fun b o u hs => hE.cell b o u (.inl hs)⟩
  | .bp cs, E, E', v, hE, h => by
    simp only [Rep] at h ⊢
    obtain ⟨b, o, vs, rfl, h, hat⟩ := h
    exact ⟨b, o, vs, rfl, RepL.mono hE.bor h, hat.mono (fun b o h => hE.B b h) fun b o u hs => hE.cell b o u (.inr hs)⟩
  | .lp c off, E, E', v, hE, h => by
    simp only [Rep] at h ⊢
    obtain ⟨b, hb, rfl⟩ := h
    exact ⟨b, hE.loc _ _ hb, rfl⟩
  | .clo fn fst caps, E, E', v, hE, h => by
    simp only [Rep] at h ⊢
    obtain ⟨fs, cs, rfl, h1, h2⟩ := h
    exact ⟨fs, cs, rfl, RepL.mono hE h1, RepL.mono hE h2⟩
  | .ifc t x, E, E', v, hE, h => by
    simp only [Rep] at h ⊢
    obtain ⟨u, rfl, h⟩ := h
    exact ⟨u, rfl, Rep.mono hE h⟩
  | .mp keys vals, E, E', v, hE, h => by
    simp only [Rep] at h ⊢
    obtain ⟨b, es, ck, vs, rfl, hh, hS, hk, hv, hr⟩ := h
    exact ⟨b, es, ck, vs, rfl, hE.map _ _ _ hS hh, hE.S _ _ hS, hk, hv, RepL.mono hE.closed hr⟩
  | .gl i, E, E', v, hE, h => by simp only [Rep] at h ⊢; rw [hE.G]; exact h
  | .gp g, E, E', v, hE, h => by simpa only [Rep] using h
  | .ml c off n cap g e, E, E', v, hE, h => by
    simp only [Rep] at h ⊢
    obtain ⟨b, hb, rfl⟩ := h
    exact ⟨b, hE.loc _ _ hb, rfl⟩
  | .mu c keys vals, E, E', v, hE, h => by
    simp only [Rep] at h ⊢
    obtain ⟨b, es, ck, vs, hb, rfl, hh, hk, hv, hr⟩ := h
    obtain ⟨h1, h2⟩ := hE.mloc _ _ hb
    exact ⟨b, es, ck, vs, h1, rfl, h2.trans hh, hk, hv, RepL.mono hE.closed hr⟩
  | .mf τ al, E, E', v, hE, h => by
    simp only [Rep] at h ⊢
    obtain ⟨b, rfl, h⟩ := h
    refine ⟨b, rfl, fun e => ?_⟩
    obtain ⟨⟨ck, hh⟩, ho, hs⟩ := h e
    obtain ⟨ho', hh', hs'⟩ := hE.own b τ ho
    exact ⟨⟨ck, hh'.trans hh⟩, ho', fun o h => hs o (hs' o h)⟩
  | .dead, E, E', v, hE, h => by simp only [Rep]
theorem RepL.mono : ∀ {xs : List AV} {E E' : RE} {vs : List Value}, Ext E E' → RepL E xs vs → RepL E' xs vs
  | [], E, E', vs, _, h => by simpa only [RepL] using h
  | x :: xs, E, E', vs, hE, h => by
    simp only [RepL] at h ⊢
    obtain ⟨v, ws, rfl, h1, h2⟩ := h
    exact ⟨v, ws, rfl, Rep.mono hE h1, RepL.mono hE h2⟩
end

end Go.Proofs.Ytmjmfollimaleaa.VL
