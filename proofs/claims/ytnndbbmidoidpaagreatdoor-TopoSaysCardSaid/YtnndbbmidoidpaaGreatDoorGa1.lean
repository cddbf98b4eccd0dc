import Derived.Laws.MakeOwn
import Derived.Test.YtnndbbmidoidpaaGreatDoorGa0
set_option linter.unusedVariables false
set_option linter.unusedSimpArgs false
section
namespace Go.Proofs.YtnndbbmidoidpaaGreatDoor.VL
open Go.RowKit
mutual
/-- A local's pointers are forgotten. -/
def kill (d : Nat) : AV → AV
 | .lp c o => if c = d then .dead else .lp c o
 | .ml c o n k g e => if c = d then .dead else .ml c o n k g e
 | .agg cs => .agg (killL d cs)
 | .tup cs => .tup (killL d cs)
 | .clo f a b => .clo f (killL d a) (killL d b)
 | .ifc t v => .ifc t (kill d v)
 | x => x
def killL (d : Nat) : List AV → List AV
 | [] => []
 | x :: xs => kill d x :: killL d xs
end
mutual
/-- An owner's mark is struck. -/
def strip (τ : List Nat) : AV → AV
 | .sl (.own t) e rows => if t = τ then .sl .none e rows else .sl (.own t) e rows
 | .sl (.fr t) e rows => if t = τ then .sl .gone e rows else .sl (.fr t) e rows
 | .mf t al => .mf t (al && decide (t ≠ τ))
 | .agg cs => .agg (stripL τ cs)
 | .tup cs => .tup (stripL τ cs)
 | .clo f a b => .clo f (stripL τ a) (stripL τ b)
 | .ifc t v => .ifc t (strip τ v)
 | x => x
def stripL (τ : List Nat) : List AV → List AV
 | [] => []
 | x :: xs => strip τ x :: stripL τ xs
end
mutual
/-- Maps that bear such a name are forgotten. -/
def killn (p : List Nat → Bool) : AV → AV
 | .mu t k v => if p t = true then .dead else .mu t k v
 | .agg cs => .agg (killnL p cs)
 | .tup cs => .tup (killnL p cs)
 | .clo f a b => .clo f (killnL p a) (killnL p b)
 | .ifc t v => .ifc t (killn p v)
 | x => x
def killnL (p : List Nat → Bool) : List AV → List AV
 | [] => []
 | x :: xs => killn p x :: killnL p xs
end
def Env.killn (E : Env) (p : List Nat → Bool) : Env:= ⟨fun k => VL.killn p (E.s k),fun c => (E.c c).map (killnL p)⟩
def RE.unname (E : RE) (p : List Nat → Bool) : RE:= { E with mloc:= fun t => if p t = true then none else E.mloc t }
def Env.forget (E : Env) (d : Nat) : Env:= ⟨fun k => kill d (E.s k),fun c => if c = d then none else (E.c c).map (killL d)⟩
def Env.strip (E : Env) (τ : List Nat) : Env:= ⟨fun k => VL.strip τ (E.s k),fun c => (E.c c).map (stripL τ)⟩
def Env.fresh (E : Env) (d : Nat) : Env:= match E.c d with | none => E | some _ => E.forget d
def RE.unloc (E : RE) (d : Nat) : RE:= { E with loc:= fun c => if c = d then none else E.loc c }
def RE.unown (E : RE) (τ : List Nat) : RE:= { E with own:= fun g t => E.own g t ∧ t ≠ τ }
theorem RE.unloc_closed (E : RE) (d : Nat) : (E.unloc d).closed = E.closed:= by simp [RE.unloc,RE.closed]
theorem RE.unloc_bor (E : RE) (d : Nat) : (E.unloc d).bor = E.bor:= by
 simp only [RE.unloc,RE.bor]
theorem RE.unname_closed (E : RE) (p : List Nat → Bool) : (E.unname p).closed = E.closed:= by simp [RE.unname,RE.closed]
theorem RE.unname_bor (E : RE) (p : List Nat → Bool) : (E.unname p).bor = E.bor:= by simp only [RE.unname,RE.bor]
mutual
theorem rep_killn (p : List Nat → Bool) : ∀ {x : AV} {E : RE} {v : Value},Rep E x v → Rep (E.unname p) (killn p x) v
 | .lit u,E,v,h => by simpa only [killn,Rep] using h
 | .agg cs,E,v,h => by
  simp only [killn,Rep] at h ⊢
  obtain ⟨vs,rfl,h⟩:= h
  exact ⟨vs,rfl,repL_killn p h⟩
 | .tup cs,E,v,h => by
  simp only [killn,Rep] at h ⊢
  obtain ⟨vs,rfl,h⟩:= h
  exact ⟨vs,rfl,repL_killn p h⟩
 | .sl t e rows,E,v,h => by
  simp only [killn]
  simp only [Rep,RE.unname_closed] at h ⊢
  exact h
 | .mf t al,E,v,h => by
  simp only [killn]
  simp only [Rep] at h ⊢
  exact h
 | .rp cs,E,v,h => by
  simp only [killn]
  simp only [Rep,RE.unname_closed] at h ⊢
  exact h
 | .bp cs,E,v,h => by
  simp only [killn]
  simp only [Rep,RE.unname_bor] at h ⊢
  exact h
 | .lp c o,E,v,h => by simp only [killn,Rep] at h ⊢; exact h
 | .ml c o n k g e,E,v,h => by simp only [killn,Rep] at h ⊢; exact h
 | .mu t k vs,E,v,h => by
  simp only [killn]
  split
  ·simp only [Rep]
  ·rename_i hp
   simp only [Rep,RE.unname_closed] at h ⊢
   obtain ⟨b,es,ck,vs',hb,h⟩:= h
   exact ⟨b,es,ck,vs',by simp [RE.unname,hp,hb],h⟩
 | .clo f a b,E,v,h => by
  simp only [killn,Rep] at h ⊢
  obtain ⟨fs,cs,rfl,h1,h2⟩:= h
  exact ⟨fs,cs,rfl,repL_killn p h1,repL_killn p h2⟩
 | .ifc t x,E,v,h => by
  simp only [killn,Rep] at h ⊢
  obtain ⟨u,rfl,h⟩:= h
  exact ⟨u,rfl,rep_killn p h⟩
 | .mp keys vals,E,v,h => by
  simp only [killn]
  simp only [Rep,RE.unname_closed] at h ⊢
  exact h
 | .gl i,E,v,h => by simp only [killn,Rep] at h ⊢; exact h
 | .gp g,E,v,h => by simpa only [killn,Rep] using h
 | .dead,E,v,h => by simp only [killn,Rep]
theorem repL_killn (p : List Nat → Bool) : ∀ {xs : List AV} {E : RE} {vs : List Value},RepL E xs vs → RepL (E.unname p) (killnL p xs) vs
 | [],E,vs,h => by simpa only [killnL,RepL] using h
 | x :: xs,E,vs,h => by
  simp only [killnL,RepL] at h ⊢
  obtain ⟨v,ws,rfl,h1,h2⟩:= h
  exact ⟨v,ws,rfl,rep_killn p h1,repL_killn p h2⟩
end
theorem RE.unown_closed (E : RE) (τ : List Nat) : (E.unown τ).closed = E.closed:= rfl
theorem RE.unown_bor (E : RE) (τ : List Nat) : (E.unown τ).bor = E.bor:= rfl
mutual
theorem rep_kill (d : Nat) : ∀ {x : AV} {E : RE} {v : Value},Rep E x v → Rep (E.unloc d) (kill d x) v
 | .lit u,E,v,h => by simpa only [kill,Rep] using h
 | .agg cs,E,v,h => by
  simp only [kill,Rep] at h ⊢
  obtain ⟨vs,rfl,h⟩:= h
  exact ⟨vs,rfl,repL_kill d h⟩
 | .tup cs,E,v,h => by
  simp only [kill,Rep] at h ⊢
  obtain ⟨vs,rfl,h⟩:= h
  exact ⟨vs,rfl,repL_kill d h⟩
 | .sl t e rows,E,v,h => by
  simp only [kill]
  simp only [Rep,RE.unloc_closed] at h ⊢
  exact h
 | .rp cs,E,v,h => by
  simp only [kill]
  simp only [Rep,RE.unloc_closed] at h ⊢
  exact h
 | .bp cs,E,v,h => by
  simp only [kill]
  simp only [Rep,RE.unloc_bor] at h ⊢
  exact h
 | .lp c o,E,v,h => by
  simp only [kill]
  split
  ·simp [Rep]
  ·rename_i hc
   simp only [Rep] at h ⊢
   obtain ⟨b,hb,rfl⟩:= h
   exact ⟨b,by simp [RE.unloc,hc,hb],rfl⟩
 | .ml c o n k g e,E,v,h => by
  simp only [kill]
  split
  ·simp [Rep]
  ·rename_i hc
   simp only [Rep] at h ⊢
   obtain ⟨b,hb,rfl⟩:= h
   exact ⟨b,by simp [RE.unloc,hc,hb],rfl⟩
 | .mu t k vs,E,v,h => by
  simp only [kill]
  simp only [Rep,RE.unloc_closed] at h ⊢
  exact h
 | .mf t al,E,v,h => by
  simp only [kill]
  simp only [Rep] at h ⊢
  exact h
 | .clo f a b,E,v,h => by
  simp only [kill,Rep] at h ⊢
  obtain ⟨fs,cs,rfl,h1,h2⟩:= h
  exact ⟨fs,cs,rfl,repL_kill d h1,repL_kill d h2⟩
 | .ifc t x,E,v,h => by
  simp only [kill,Rep] at h ⊢
  obtain ⟨u,rfl,h⟩:= h
  exact ⟨u,rfl,rep_kill d h⟩
 | .mp keys vals,E,v,h => by
  simp only [kill]
  simp only [Rep,RE.unloc_closed] at h ⊢
  exact h
 | .gl i,E,v,h => by simp only [kill,Rep] at h ⊢; exact h
 | .gp g,E,v,h => by simpa only [kill,Rep] using h
 | .dead,E,v,h => by simp only [kill,Rep]
theorem repL_kill (d : Nat) : ∀ {xs : List AV} {E : RE} {vs : List Value},RepL E xs vs → RepL (E.unloc d) (killL d xs) vs
 | [],E,vs,h => by simpa only [killL,RepL] using h
 | x :: xs,E,vs,h => by
  simp only [killL,RepL] at h ⊢
  obtain ⟨v,ws,rfl,h1,h2⟩:= h
  exact ⟨v,ws,rfl,rep_kill d h1,repL_kill d h2⟩
end
mutual
theorem rep_strip (τ : List Nat) : ∀ {x : AV} {E : RE} {v : Value},Rep E x v → Rep (E.unown τ) (strip τ x) v
 | .lit u,E,v,h => by simpa only [strip,Rep] using h
 | .agg cs,E,v,h => by
  simp only [strip,Rep] at h ⊢
  obtain ⟨vs,rfl,h⟩:= h
  exact ⟨vs,rfl,repL_strip τ h⟩
 | .tup cs,E,v,h => by
  simp only [strip,Rep] at h ⊢
  obtain ⟨vs,rfl,h⟩:= h
  exact ⟨vs,rfl,repL_strip τ h⟩
 | .sl .none e rows,E,v,h => by
  simp only [strip]
  simp only [Rep,RE.unown_closed] at h ⊢
  exact h
 | .sl .nil e rows,E,v,h => by
  simp only [strip]
  simp only [Rep,RE.unown_closed] at h ⊢
  exact h
 | .sl .bor e rows,E,v,h => by
  simp only [strip]
  simp only [Rep,RE.unown_closed] at h ⊢
  exact h
 | .sl .gone e rows,E,v,h => by
  simp only [strip]
  simp only [Rep,RE.unown_closed] at h ⊢
  exact h
 | .sl (.fr t) e rows,E,v,h => by
  simp only [strip]
  split
  ·simp only [Rep,RE.unown_closed] at h ⊢
   obtain ⟨A,cap,vs,rfl,hcap,hr,he,h1,ht⟩:= h
   exact ⟨A,cap,vs,rfl,hcap,hr,he,h1,trivial⟩
  ·rename_i hne
   simp only [Rep,RE.unown_closed] at h ⊢
   obtain ⟨A,cap,vs,rfl,hcap,hr,he,h1,ht⟩:= h
   refine ⟨A,cap,vs,rfl,hcap,hr,he,h1,?_⟩
   rcases ht with ht | ⟨g,cur,ty,ha,hat,hh,hm,hc,ho,hs⟩
   ·exact .inl ht
   ·exact .inr ⟨g,cur,ty,ha,hat,hh,hm,hc,⟨ho,hne⟩,hs⟩
 | .mf t al,E,v,h => by
  simp only [strip,Rep] at h ⊢
  obtain ⟨b,rfl,h⟩:= h
  refine ⟨b,rfl,fun e => ?_⟩
  simp only [Bool.and_eq_true,decide_eq_true_eq] at e
  obtain ⟨hh,ho,hs⟩:= h e.1
  exact ⟨hh,⟨ho,e.2⟩,hs⟩
 | .mu t k vs,E,v,h => by
  simp only [strip]
  simp only [Rep,RE.unown_closed] at h ⊢
  exact h
 | .sl (.own t) e rows,E,v,h => by
  simp only [strip]
  split
  ·simp only [Rep,RE.unown_closed] at h ⊢
   obtain ⟨A,cap,vs,rfl,hcap,hr,he,h1,ht⟩:= h
   refine ⟨A,cap,vs,rfl,hcap,hr,he,h1,fun hne => ?_⟩
   rcases ht with ⟨_,h0⟩ | ⟨g,cur,ty,ha,hat,_⟩
   ·exact absurd (List.eq_nil_of_length_eq_zero (by omega)) hne
   ·exact ⟨g,0,ha,hat⟩
  ·rename_i hne
   simp only [Rep,RE.unown_closed] at h ⊢
   obtain ⟨A,cap,vs,rfl,hcap,hr,he,h1,ht⟩:= h
   refine ⟨A,cap,vs,rfl,hcap,hr,he,h1,?_⟩
   rcases ht with ht | ⟨g,cur,ty,ha,hat,hh,hm,hc,ho,hs⟩
   ·exact .inl ht
   ·exact .inr ⟨g,cur,ty,ha,hat,hh,hm,hc,⟨ho,hne⟩,hs⟩
 | .rp cs,E,v,h => by
  simp only [strip]
  simp only [Rep,RE.unown_closed] at h ⊢
  exact h
 | .bp cs,E,v,h => by
  simp only [strip]
  simp only [Rep,RE.unown_bor] at h ⊢
  exact h
 | .lp c o,E,v,h => by simp only [strip,Rep] at h ⊢; exact h
 | .ml c o n k g e,E,v,h => by simp only [strip,Rep] at h ⊢; exact h
 | .clo f a b,E,v,h => by
  simp only [strip,Rep] at h ⊢
  obtain ⟨fs,cs,rfl,h1,h2⟩:= h
  exact ⟨fs,cs,rfl,repL_strip τ h1,repL_strip τ h2⟩
 | .ifc t x,E,v,h => by
  simp only [strip,Rep] at h ⊢
  obtain ⟨u,rfl,h⟩:= h
  exact ⟨u,rfl,rep_strip τ h⟩
 | .mp keys vals,E,v,h => by
  simp only [strip]
  simp only [Rep,RE.unown_closed] at h ⊢
  exact h
 | .gl i,E,v,h => by simp only [strip,Rep] at h ⊢; exact h
 | .gp g,E,v,h => by simpa only [strip,Rep] using h
 | .dead,E,v,h => by simp only [strip,Rep]
theorem repL_strip (τ : List Nat) : ∀ {xs : List AV} {E : RE} {vs : List Value},RepL E xs vs → RepL (E.unown τ) (stripL τ xs) vs
 | [],E,vs,h => by simpa only [stripL,RepL] using h
 | x :: xs,E,vs,h => by
  simp only [stripL,RepL] at h ⊢
  obtain ⟨v,ws,rfl,h1,h2⟩:= h
  exact ⟨v,ws,rfl,rep_strip τ h1,repL_strip τ h2⟩
end
section
variable {P : Program} {R : RE} {N : Nat} {env : Env} {a : Act} {E : RE}
theorem Inv.forgetLoc (h : Inv R N env a E) (d : Nat) : Inv R N (env.forget d) a (E.unloc d):= by
 refine { h with lentl:= fun c b hb hc => ?_,par:= fun c b hb => ⟨(h.par c b hb).1,?_⟩,locc:= fun c b hb => ?_,locd:= fun c cs hc => ?_,loc1:= fun c c' b h1 h2 => ?_,mlocc:= fun c b hb => ?_,slots:= fun k => rep_kill d (h.slots k) }
 ·simp only [RE.unloc] at hb
  split at hb
  ·cases hb
  ·exact h.lentl c b hb hc
 ·simp only [RE.unloc]
  split
  ·exact .inl rfl
  ·exact (h.par c b hb).2
 ·simp only [RE.unloc] at hb
  split at hb
  ·cases hb
  ·rename_i hne
   obtain ⟨h1,h2,h3,cs,vals,ty,hcs,hh,hr,ho⟩:= h.locc c b hb
   exact ⟨h1,h2,h3,killL d cs,vals,ty,by simp [Env.forget,hne,hcs],hh,repL_kill d hr,ho⟩
 ·simp only [Env.forget] at hc
  split at hc
  ·cases hc
  ·rename_i hne
   obtain ⟨cs',hcs',_⟩:= Option.map_eq_some_iff.1 hc
   obtain ⟨b,hb⟩:= h.locd c cs' hcs'
   exact ⟨b,by simp [RE.unloc,hne,hb]⟩
 ·simp only [RE.unloc] at h1 h2
  split at h1
  ·cases h1
  ·split at h2
   ·cases h2
   ·exact h.loc1 c c' b h1 h2
 ·obtain ⟨h1,h2,h3,h4,h5⟩:= h.mlocc c b hb
  refine ⟨h1,h2,h3,h4,fun c' hc => ?_⟩
  simp only [RE.unloc] at hc
  split at hc
  ·cases hc
  ·exact h5 c' hc
theorem Inv.unname (h : Inv R N env a E) (p : List Nat → Bool) : Inv R N (env.killn p) a (E.unname p):= by
 refine { h with locc:= fun c b hb => ?_,locd:= fun c cs hc => ?_,mlocc:= fun c b hb => ?_,mloc1:= fun c c' b h1 h2 => ?_,slots:= fun k => rep_killn p (h.slots k) }
 ·obtain ⟨h1,h2,h3,cs,vals,ty,hcs,hh,hr,ho⟩:= h.locc c b hb
  exact ⟨h1,h2,h3,killnL p cs,vals,ty,by simp [Env.killn,hcs],hh,repL_killn p hr,ho⟩
 ·obtain ⟨cs',hcs',_⟩:= Option.map_eq_some_iff.1 hc
  exact h.locd c cs' hcs'
 ·simp only [RE.unname] at hb
  split at hb
  ·cases hb
  ·exact h.mlocc c b hb
 ·simp only [RE.unname] at h1 h2
  split at h1
  ·cases h1
  ·split at h2
   ·cases h2
   ·exact h.mloc1 c c' b h1 h2
theorem Inv.fresh (h : Inv R N env a E) (d : Nat) : ∃ E',E'.w = E.w ∧ Inv R N (env.fresh d) a E' ∧ E'.loc d = none ∧ (env.fresh d).c d = none:= by
 unfold Env.fresh
 split
 ·rename_i hc
  refine ⟨E,rfl,h,?_,hc⟩
  cases hl : E.loc d with
  | none => rfl
  | some b =>
   obtain ⟨_,_,_,cs,_,_,hcs,_⟩:= h.locc d b hl
   rw [hc] at hcs
   cases hcs
 ·exact ⟨E.unloc d,rfl,h.forgetLoc d,by simp [RE.unloc],by simp [Env.forget]⟩
theorem Inv.unownT (h : Inv R N env a E) (τ : List Nat) : Inv R N (env.strip τ) a (E.unown τ):= by
 refine { h with ownlt:= fun g t ho => h.ownlt g t ho.1,own1:= fun g t t' h1 h2 => h.own1 g t t' h1.1 h2.1,locc:= fun c b hb => ?_,locd:= fun c cs hc => ?_,mlocc:= fun c b hb => let ⟨h1,h2,h3,h4,h5⟩:= h.mlocc c b hb; ⟨h1,h2,h3,fun t ht => h4 t ht.1,h5⟩,slots:= fun k => rep_strip τ (h.slots k) }
 ·obtain ⟨h1,h2,h3,cs,vals,ty,hcs,hh,hr,ho⟩:= h.locc c b hb
  exact ⟨h1,h2,fun t ht => h3 t ht.1,stripL τ cs,vals,ty,by simp [Env.strip,hcs],hh,repL_strip τ hr,ho⟩
 ·obtain ⟨cs',hcs',_⟩:= Option.map_eq_some_iff.1 hc
  exact h.locd c cs' hcs'
theorem lt_of_heap {w : World} {b : Nat} {o : Obj} (h : w.heap[b]? = some o) : b < w.heap.size:= (Array.getElem?_eq_some_iff.1 h).1
theorem cell_alloc {w : World} (o : Obj) {b off : Nat} (h : b < w.heap.size) : (w.alloc o).cell? ⟨b,off,none⟩ = w.cell? ⟨b,off,none⟩:= by
 simp only [World.cell?,heap_alloc_old w o b h]
theorem size_alloc (w : World) (o : Obj) : (w.alloc o).heap.size = w.heap.size + 1:= by
 show (w.heap.push o).size = _
 simp
theorem Inv.newLoc (h : Inv R N env a E) (d : Nat) (hdN : d < N) (hd : E.loc d = none) {cs : List AV} {vals : Array Value} {ty : TypeId} (hr : RepL E cs vals.toList) (ho : ∀ u ∈ vals.toList,u.oneCell' = true) :
  Inv R N (env.putc d cs) a { E with w:= E.w.alloc (.cells vals ty),loc:= upd E.loc d (some E.w.heap.size) } ∧
   Ext E { E with w:= E.w.alloc (.cells vals ty),loc:= upd E.loc d (some E.w.heap.size) }:= by
 have hB : R.w.heap.size ≤ E.w.heap.size:= h.below.size
 have hx : Ext E { E with w:= E.w.alloc (.cells vals ty),loc:= upd E.loc d (some E.w.heap.size) }:= by
  refine ⟨fun _ _ h => h,fun _ h => h,fun b o u hb hc => ?_,fun b es ck hb hc => ?_,fun c b hc => ?_,fun g τ hg => ⟨hg,?_,fun _ h => h⟩,rfl,fun c b hc => ⟨hc,heap_alloc_old _ _ _ (h.mlocc c b hc).2.1⟩⟩
  ·have hlt : b < E.w.heap.size:= hb.elim (h.Slt b o) fun hb => Nat.lt_of_lt_of_le (h.Bok b hb).1 h.below.size
   rw [cell_alloc _ hlt]; exact hc
  ·rw [heap_alloc_old _ _ _ (h.Slt b 0 hb)]; exact hc
  ·simp only [upd]
   rw [if_neg (fun e => by rw [e,hd] at hc; cases hc)]
   exact hc
  ·exact heap_alloc_old _ _ _ (h.ownlt g τ hg).2
 refine ⟨⟨h.defers,h.Nlim,fun c b hc hc2 => ?_,h.size,h.B,h.Bok,h.below.alloc _,h.Mlt,h.MS,fun c b hc => ⟨(h.par c b hc).1,?_⟩,h.G,h.S0,fun b o hb => ?_,fun g τ hg => ⟨(h.ownlt g τ hg).1,?_⟩,h.own1,fun c b hb => ?_,fun c cs' hc => ?_,fun c c' b h1 h2 => ?_,fun c b hc => ?_,h.mloc1,fun k => (h.slots k).mono hx⟩,hx⟩
 ·have:= h.Nlim
  simp only [upd] at hc
  rw [if_neg (by omega)] at hc
  exact h.lentl c b hc hc2
 ·simp only [upd]
  rw [if_neg (by have:= (h.par c b hc).1; omega)]
  exact (h.par c b hc).2
 ·rw [size_alloc]; have:= h.Slt b o hb; omega
 ·have:= (h.ownlt g τ hg).2; rw [size_alloc]; omega
 ·simp only [upd] at hb
  split at hb
  ·rename_i hcd
   subst hcd
   injection hb with hb
   subst hb
   refine ⟨.inl hB,fun o hs => ?_,fun τ hg => ?_,cs,vals,ty,by simp [Env.putc,upd],heap_alloc_new _ _,hr.mono hx,ho⟩
   ·have:= h.Slt _ o hs; omega
   ·have:= (h.ownlt _ τ hg).2; omega
  ·rename_i hcd
   obtain ⟨h1,h2,h3,cs',vals',ty',hcs,hh,hr',ho'⟩:= h.locc c b hb
   exact ⟨h1,h2,h3,cs',vals',ty',by simp [Env.putc,upd,hcd,hcs],(heap_alloc_old _ _ _ (lt_of_heap hh)).trans hh,hr'.mono hx,ho'⟩
 ·simp only [Env.putc,upd] at hc ⊢
  split at hc
  ·rename_i hcd; exact ⟨_,by rw [if_pos hcd]⟩
  ·rename_i hcd
   rw [if_neg hcd]
   exact h.locd c cs' hc
 ·simp only [upd] at h1 h2
  have old : ∀ c,E.loc c = some b → b < E.w.heap.size:= fun c hc => by
   obtain ⟨_,_,_,_,_,_,_,hh,_⟩:= h.locc c b hc
   exact lt_of_heap hh
  split at h1 <;> split at h2
  ·omega
  ·injection h1 with h1
   have:= old c' h2
   omega
  ·injection h2 with h2
   have:= old c h1
   omega
  ·exact h.loc1 c c' b h1 h2
 ·obtain ⟨h1,h2,h3,h4,h5⟩:= h.mlocc c b hc
  refine ⟨h1,by rw [size_alloc]; omega,h3,h4,fun c' hc' => ?_⟩
  simp only [upd] at hc'
  split at hc'
  ·injection hc' with hc'; omega
  ·exact h5 c' hc'
theorem Inv.newOwn (h : Inv R N env a E) (τ : List Nat) {rows : List AV} {vs : List Value} {e cap : Nat} {ty : TypeId} {rest : List Value} (hr : RepL E.closed rows vs) (he : ∀ u ∈ vs,u.cells.size = e)
  (ho : ∀ u ∈ flat vs,u.oneCell' = true) (hcap : rows.length ≤ cap) (hm : cap ≤ maxLen) (hl : (flat vs ++ rest).length = cap * e) :
  ∃ E',E'.w = E.w.alloc (.cells (flat vs ++ rest).toArray ty) ∧ Inv R N env a E' ∧ Ext E E' ∧ Rep E' (.sl (.own τ) e rows) (.slice (some ⟨E.w.heap.size,0,none⟩) rows.length cap):= by
 have hB : R.w.heap.size ≤ E.w.heap.size:= h.below.size
 let E' : RE:= { E with w:= E.w.alloc (.cells (flat vs ++ rest).toArray ty),S:= fun b o => E.S b o ∨ (b = E.w.heap.size ∧ o < rows.length * e),own:= fun g t => E.own g t ∨ (g = E.w.heap.size ∧ t = τ) }
 have hx : Ext E E':= by
  refine ⟨fun _ _ h => .inl h,fun _ h => h,fun b o u hb hc => ?_,fun b es ck hb hc => ?_,fun c b hc => hc,fun g τ hg => ⟨.inl hg,?_,fun o hs => ?_⟩,rfl,fun c b hc => ⟨hc,heap_alloc_old _ _ _ (h.mlocc c b hc).2.1⟩⟩
  ·have hlt : b < E.w.heap.size:= hb.elim (h.Slt b o) fun hb => Nat.lt_of_lt_of_le (h.Bok b hb).1 h.below.size
   exact (cell_alloc _ hlt).trans hc
  ·exact (heap_alloc_old _ _ _ (h.Slt b 0 hb)).trans hc
  ·exact heap_alloc_old _ _ _ (h.ownlt g τ hg).2
  ·rcases hs with hs | ⟨hs,_⟩
   ·exact hs
   ·have:= (h.ownlt g τ hg).2; omega
 have hfl:= flat_length he
 have hvl:= hr.length
 refine ⟨E',rfl,⟨h.defers,h.Nlim,h.lentl,h.size,h.B,h.Bok,h.below.alloc _,h.Mlt,fun k hk o hs => ?_,h.par,h.G,fun b o hb => ?_,fun b o hb => ?_,fun g t hg => ?_,fun g t t' h1 h2 => ?_,fun c b hb => ?_,h.locd,h.loc1,fun c b hc => ?_,h.mloc1,fun k => (h.slots k).mono hx⟩,hx,?_⟩
 ·rcases hs with hs | ⟨hs,_⟩
  ·exact h.MS k hk o hs
  ·have:= h.Mlt k hk; omega
 ·rw [← h.S0 b o hb]
  constructor
  ·rintro (hs | ⟨hs,_⟩)
   ·exact hs
   ·omega
  ·exact .inl
 ·show b < (E.w.alloc _).heap.size
  rw [size_alloc]
  rcases hb with hb | ⟨hb,_⟩
  ·have:= h.Slt b o hb; omega
  ·omega
 ·show _ ∧ g < (E.w.alloc _).heap.size
  rw [size_alloc]
  rcases hg with hg | ⟨hg,_⟩
  ·have:= h.ownlt g t hg; exact ⟨this.1,by omega⟩
  ·subst hg; exact ⟨hB,by omega⟩
 ·rcases h1 with h1 | ⟨h1,rfl⟩ <;> rcases h2 with h2 | ⟨h2,rfl⟩
  ·exact h.own1 g t t' h1 h2
  ·have:= (h.ownlt g t h1).2; omega
  ·have:= (h.ownlt g t' h2).2; omega
  ·rfl
 ·obtain ⟨h1,h2,h3,cs',vals',ty',hcs,hh,hr',ho'⟩:= h.locc c b hb
  have hlt:= lt_of_heap hh
  refine ⟨h1,fun o hs => ?_,fun t ht => ?_,cs',vals',ty',hcs,(heap_alloc_old _ _ _ hlt).trans hh,hr'.mono hx,ho'⟩
  ·rcases hs with hs | ⟨hs,_⟩
   ·exact h2 o hs
   ·omega
  ·rcases ht with ht | ⟨ht,_⟩
   ·exact h3 t ht
   ·omega
 ·obtain ⟨h1,h2,h3,h4,h5⟩:= h.mlocc c b hc
  refine ⟨h1,by show b < (E.w.alloc _).heap.size; rw [size_alloc]; omega,fun o hs => ?_,fun t ht => ?_,h5⟩
  ·rcases hs with hs | ⟨hs,_⟩
   ·exact h3 o hs
   ·omega
  ·rcases ht with ht | ⟨ht,_⟩
   ·exact h4 t ht
   ·omega
 ·simp only [Rep]
  refine ⟨_,cap,vs,rfl,hcap,hr.mono hx.closed,he,ho,.inr ⟨E.w.heap.size,(flat vs ++ rest).toArray,ty,rfl,?_,heap_alloc_new _ _,hm,by simpa using hl,.inr ⟨rfl,rfl⟩,fun o hs => ?_⟩⟩
  ·intro j u hj
   have hjl : j < (flat vs).length:= (List.getElem?_eq_some_iff.1 hj).1
   refine ⟨.inr ⟨rfl,by rw [← hvl]; omega⟩,?_⟩
   show (E.w.alloc _).cell? _ = _
   simp only [World.cell?,heap_alloc_new]
   simp [List.getElem?_append_left hjl,hj]
  ·rcases hs with hs | ⟨_,hs⟩
   ·have:= h.Slt _ o hs; omega
   ·exact hs
theorem Inv.takeLab (h : Inv R N env a E) (τ : List Nat) {g : Nat} {w' : World} (hg1 : R.w.heap.size ≤ g) (hg2 : g < w'.heap.size) (hgS : ∀ o,¬ E.S g o) (hgo : ∀ t,¬ E.own g t)
  (hgl : ∀ c,E.loc c ≠ some g) (hgm : ∀ t,E.mloc t ≠ some g) (hsz : E.w.heap.size ≤ w'.heap.size) (hos : w'.os = E.w.os) (htape : w'.tape = E.w.tape) (hout : w'.output = E.w.output)
  (hoth : ∀ b,b ≠ g → b < E.w.heap.size → w'.heap[b]? = E.w.heap[b]?) :
  Inv R N env a { E with w:= w',own:= fun k t => E.own k t ∨ (k = g ∧ t = τ) } ∧ Ext E { E with w:= w',own:= fun k t => E.own k t ∨ (k = g ∧ t = τ) }:= by
 have hB : ∀ b,E.B b → b ≠ g:= fun b hb e => by have:= (h.Bok b hb).1; omega
 have hS : ∀ b o,E.S b o → b ≠ g:= fun b o hs e => hgS o (e ▸ hs)
 have hx : Ext E { E with w:= w',own:= fun k t => E.own k t ∨ (k = g ∧ t = τ) }:= by
  refine ⟨fun _ _ h => h,fun _ h => h,fun b o u hb hc => ?_,fun b es ck hb hc => ?_,fun c b hc => hc,fun k t hk => ⟨.inl hk,?_,fun _ h => h⟩,rfl,fun t b hb => ⟨hb,?_⟩⟩
  ·have hlt : b < E.w.heap.size:= hb.elim (h.Slt b o) fun hb => Nat.lt_of_lt_of_le (h.Bok b hb).1 h.below.size
   have hne : b ≠ g:= hb.elim (hS b o) (hB b)
   have e:= hoth b hne hlt
   simp only [World.cell?,e] at hc ⊢
   exact hc
  ·exact (hoth b (hS b 0 hb) (h.Slt b 0 hb)).trans hc
  ·exact hoth k (fun e => hgo t (e ▸ hk)) (h.ownlt k t hk).2
  ·exact hoth b (fun e => hgm t (e ▸ hb)) (h.mlocc t b hb).2.1
 refine ⟨⟨h.defers,h.Nlim,h.lentl,h.size,h.B,h.Bok,⟨hos.trans h.below.os,htape.trans h.below.tape,hout.trans h.below.output,Nat.le_trans h.below.size hsz,fun k hk hM => ?_⟩,h.Mlt,h.MS,h.par,h.G,h.S0,fun b o hb => ?_,fun k t hk => ?_,fun k t t' h1 h2 => ?_,fun c b hb => ?_,h.locd,h.loc1,fun t b hb => ?_,h.mloc1,fun k => (h.slots k).mono hx⟩,hx⟩
 ·exact (hoth k (by omega) (Nat.lt_of_lt_of_le hk h.below.size)).trans (h.below.block k hk hM)
 ·have:= h.Slt b o hb; show b < w'.heap.size; omega
 ·rcases hk with hk | ⟨hk,_⟩
  ·have:= h.ownlt k t hk; exact ⟨this.1,by show k < w'.heap.size; omega⟩
  ·subst hk; exact ⟨hg1,hg2⟩
 ·rcases h1 with h1 | ⟨h1,rfl⟩ <;> rcases h2 with h2 | ⟨h2,rfl⟩
  ·exact h.own1 k t t' h1 h2
  ·exact absurd (h2 ▸ h1) (hgo t)
  ·exact absurd (h1 ▸ h2) (hgo t')
  ·rfl
 ·obtain ⟨h1,h2,h3,cs,vals,ty,hcs,hh,hr,ho⟩:= h.locc c b hb
  have hne : b ≠ g:= fun e => hgl c (e ▸ hb)
  refine ⟨h1,h2,fun t ht => ?_,cs,vals,ty,hcs,(hoth b hne (lt_of_heap hh)).trans hh,hr.mono hx,ho⟩
  rcases ht with ht | ⟨ht,_⟩
  ·exact h3 t ht
  ·exact hne ht
 ·obtain ⟨h1,h2,h3,h4,h5⟩:= h.mlocc t b hb
  refine ⟨h1,by show b < w'.heap.size; omega,h3,fun t' ht => ?_,h5⟩
  rcases ht with ht | ⟨ht,_⟩
  ·exact h4 t' ht
  ·exact hgm t (ht ▸ hb)
theorem Inv.newLab (h : Inv R N env a E) (τ : List Nat) (o : Obj) :
  Inv R N env a { E with w:= E.w.alloc o,own:= fun k t => E.own k t ∨ (k = E.w.heap.size ∧ t = τ) } ∧ Ext E { E with w:= E.w.alloc o,own:= fun k t => E.own k t ∨ (k = E.w.heap.size ∧ t = τ) }:= by
 refine h.takeLab τ h.below.size (by rw [size_alloc]; omega) (fun o hs => ?_) (fun t ht => ?_) (fun c hc => ?_) (fun t ht => ?_) (by rw [size_alloc]; omega) rfl rfl rfl fun b hb hlt => heap_alloc_old _ _ _ hlt
 ·have:= h.Slt _ o hs; omega
 ·have:= (h.ownlt _ t ht).2; omega
 ·obtain ⟨_,_,_,_,_,_,_,hh,_⟩:= h.locc c _ hc
  have:= lt_of_heap hh
  omega
 ·have:= (h.mlocc t _ ht).2.1; omega
theorem Inv.setLab (h : Inv R N env a E) {τ : List Nat} (τ' : List Nat) {g : Nat} {w' : World} (hown : E.own g τ) (hgS : ∀ o,¬ E.S g o) (hsz : w'.heap.size = E.w.heap.size) (hos : w'.os = E.w.os) (htape : w'.tape = E.w.tape) (hout : w'.output = E.w.output)
  (hoth : ∀ b,b ≠ g → w'.heap[b]? = E.w.heap[b]?) :
  Inv R N (env.strip τ) a { E.unown τ with w:= w',own:= fun k t => (E.unown τ).own k t ∨ (k = g ∧ t = τ') } ∧ Ext (E.unown τ) { E.unown τ with w:= w',own:= fun k t => (E.unown τ).own k t ∨ (k = g ∧ t = τ') }:= by
 obtain ⟨h1,h2⟩:= h.ownlt g τ hown
 exact (h.unownT τ).takeLab τ' h1 (by omega) hgS (fun t ht => ht.2 (h.own1 g t τ ht.1 hown)) (fun c hc => (h.locc c g hc).2.2.1 τ hown) (fun t ht => (h.mlocc t g ht).2.2.2.1 τ hown) (Nat.le_of_eq hsz.symm) hos htape hout fun b hb _ => hoth b hb
end
end Go.Proofs.YtnndbbmidoidpaaGreatDoor.VL
end

section
namespace Go.Proofs.YtnndbbmidoidpaaGreatDoor.VL
open Go.RowKit
section
variable {P : Program} {R : RE} {N : Nat} {env : Env} {a : Act} {E : RE}
theorem setRow_size (w : World) (g : Nat) (cs : Array Value) : (w.setRow g cs).heap.size = w.heap.size:= by simp [World.setRow]
theorem belowX_setRow {M : Nat → Prop} {w0 w : World} (h : BelowX M w0 w) {g : Nat} (hg : w0.heap.size ≤ g ∨ M g) (cs : Array Value) : BelowX M w0 (w.setRow g cs) :=
 ⟨h.os,h.tape,h.output,by rw [setRow_size]; exact h.size,fun k hk hm => by
  have hne : k ≠ g:= by
   rintro rfl
   rcases hg with hg | hg
   ·omega
   ·exact hm hg
  rw [setRow_other w g k cs hne]; exact h.block k hk hm⟩
theorem Inv.setLoc (h : Inv R N env a E) {d b : Nat} (hb : E.loc d = some b) {vals : Array Value} {ty : TypeId} (hh : E.w.heap[b]? = some (.cells vals ty (0,0))) {cs : List AV} {cur : Array Value}
  (hr : RepL E cs cur.toList) (ho : ∀ u ∈ cur.toList,u.oneCell' = true) :
  Inv R N (env.putc d cs) a { E with w:= E.w.setRow b cur } ∧ Ext E { E with w:= E.w.setRow b cur }:= by
 obtain ⟨hB,hS,hown,_⟩:= h.locc d b hb
 have hx : Ext E { E with w:= E.w.setRow b cur }:= by
  refine ⟨fun _ _ h => h,fun _ h => h,fun b' o u hs hc => ?_,fun b' es ck hs hc => ?_,fun c b hc => hc,fun g τ hg => ⟨hg,?_,fun _ h => h⟩,rfl,fun c b' hc => ⟨hc,?_⟩⟩
  ·have hne : b' ≠ b:= by
    rintro rfl
    rcases hs with hs | hs
    ·exact hS o hs
    ·obtain ⟨h1,h2⟩:= h.Bok b' hs
     rcases hB with hB | hB
     ·omega
     ·exact h2 ⟨d,hB⟩
   have he : (E.w.setRow b cur).heap[b']? = E.w.heap[b']?:= setRow_other E.w b b' cur hne
   simp only [World.cell?,he] at hc ⊢
   exact hc
  ·have hne : b' ≠ b:= by
    rintro rfl
    exact hS 0 hs
   exact (setRow_other E.w b b' cur hne).trans hc
  ·have hne : g ≠ b:= by
    rintro rfl
    exact hown τ hg
   exact setRow_other E.w b g cur hne
  ·have hne : b' ≠ b:= by
    rintro rfl
    exact (h.mlocc c b' hc).2.2.2.2 d hb
   exact setRow_other E.w b b' cur hne
 refine ⟨⟨h.defers,h.Nlim,h.lentl,h.size,h.B,h.Bok,belowX_setRow h.below (hB.imp id fun e => ⟨d,e⟩) cur,h.Mlt,h.MS,h.par,h.G,h.S0,fun b o hs => ?_,fun g τ hg => ?_,h.own1,fun c b' hc => ?_,fun c cs' hc => ?_,h.loc1,fun c b' hc => ?_,h.mloc1,fun k => (h.slots k).mono hx⟩,hx⟩
 ·rw [setRow_size]; exact h.Slt b o hs
 ·rw [setRow_size]; exact h.ownlt g τ hg
 ·by_cases hcd : c = d
  ·subst hcd
   rw [hb] at hc
   injection hc with hc
   subst hc
   exact ⟨hB,hS,hown,cs,cur,ty,by simp [Env.putc,upd],setRow_heap E.w b vals cur ty (0,0) hh,hr.mono hx,ho⟩
  ·obtain ⟨h1,h2,h3,cs',vals',ty',hcs,hh',hr',ho'⟩:= h.locc c b' hc
   have hne : b' ≠ b:= by
    rintro rfl
    exact hcd (h.loc1 c d b' hc hb)
   exact ⟨h1,h2,h3,cs',vals',ty',by simp [Env.putc,upd,hcd,hcs],(setRow_other E.w b b' cur hne).trans hh',hr'.mono hx,ho'⟩
 ·simp only [Env.putc,upd] at hc
  split at hc
  ·rename_i hcd; rw [hcd]; exact ⟨b,hb⟩
  ·exact h.locd c cs' hc
 ·obtain ⟨h1,h2,h3⟩:= h.mlocc c b' hc
  exact ⟨h1,by rw [setRow_size]; exact h2,h3⟩
theorem run_storeVar {t : TypeId} {i : TypeInfo} (hi : P.info? t = some i) {w : World} {b o : Nat} {ty : TypeId} {cur : Array Value} (hh : w.heap[b]? = some (.cells cur ty (0,0))) {v : Value} (hv : v.cells.size = i.size)
  (hl : o + i.size ≤ cur.size) (h1 : ∀ u ∈ v.cells.toList,u.oneCell' = true) :
  (storeVar t ⟨b,o,none⟩ v).run P w = .ok () (w.setRow b (cur.toList.take o ++ v.cells.toList ++ cur.toList.drop (o + i.size)).toArray):= by
 have:= run_storeCells_at P b o ty v.cells.toList 0 cur w hh (by simp; omega) h1
 simp only [Nat.add_zero,Array.length_toList,hv] at this
 unfold storeVar
 simp only [Sem.run_bind,run_sizeOf hi,Result.andThen_ok,hv,ne_eq,not_true,if_false]
 simp [Sem.run_bind,Sem.run,this]
def oneL (cs : List AV) : Bool:= cs.all AV.one
theorem oneL_spec {cs : List AV} (h : oneL cs = true) : ∀ x ∈ cs,x.one = true:= fun x hx => by
 simp only [oneL,List.all_eq_true] at h
 exact h x hx
def stepStore (size : Nat) (p x : AV) (env : Env) : Option Env :=
 match p with
 | .lp c o => match env.c c with
  | some cs => if x.row = true then if oneL (cellsOf x) = true then if (cellsOf x).length = size then if o + size ≤ cs.length then some (env.putc c (cs.take o ++ cellsOf x ++ cs.drop (o + size))) else none else none else none else none
  | none => none
 | _ => none
theorem wp_store (hI : Inv R N env a E) {o : Oper} {t : TypeId} {i : TypeInfo} {y z : Operand} (ho : o.op = .store t y z) (hi : P.info? t = some i) {env' : Env} (h : stepStore i.size (env.ev y) (env.ev z) env = some env')
  {K : Act → World → Prop} {Q : Exit → Act → World → Prop} (hK : ∀ E',Inv R N env' a E' → K (a.put o.dst undef) E'.w) : o.wp P a E.w K Q:= by
 unfold stepStore at h
 split at h
 ·rename_i c off hc
  split at h
  ·rename_i cs hcs
   split at h
   case isFalse => cases h
   rename_i hrow
   split at h
   case isFalse => cases h
   rename_i hone
   split at h
   case isFalse => cases h
   rename_i hlen
   split at h
   case isFalse => cases h
   rename_i hle
   injection h with h
   subst h
   have hy:= hI.ev y
   have hz:= hI.ev z
   rw [hc] at hy
   simp only [Rep] at hy
   obtain ⟨b,hb,he⟩:= hy
   obtain ⟨h1,h2,h3,cs',vals,ty,hcs',hh,hr,ho'⟩:= hI.locc c b hb
   rw [hcs] at hcs'
   injection hcs' with hcs'
   subst hcs'
   have hzc:= rep_cells hz (row_or hrow)
   have hzl:= hzc.length
   rw [Array.length_toList] at hzl
   have hz1:= repL_one hzc (oneL_spec hone)
   have hrl:= hr.length
   rw [Array.length_toList] at hrl
   have hrun:= run_storeVar (P:= P) hi hh (o:= off) (v:= a.eval z) (by omega) (by omega) hz1
   have hnew : RepL E (cs.take off ++ cellsOf (env.ev z) ++ cs.drop (off + i.size)) (vals.toList.take off ++ (a.eval z).cells.toList ++ vals.toList.drop (off + i.size)) :=
    ((hr.take off).append hzc).append (hr.drop _)
   have hall : ∀ u ∈ (vals.toList.take off ++ (a.eval z).cells.toList ++ vals.toList.drop (off + i.size)),u.oneCell' = true:= by
    intro u hu
    rcases List.mem_append.1 hu with hu | hu
    ·rcases List.mem_append.1 hu with hu | hu
     ·exact ho' u (List.mem_of_mem_take hu)
     ·exact hz1 u hu
    ·exact ho' u (List.mem_of_mem_drop hu)
   obtain ⟨hI',_⟩:= hI.setLoc hb hh (cs:= cs.take off ++ cellsOf (env.ev z) ++ cs.drop (off + i.size)) (cur:= (vals.toList.take off ++ (a.eval z).cells.toList ++ vals.toList.drop (off + i.size)).toArray) (by simpa using hnew) (by simpa using hall)
   unfold Oper.wp
   have hex : (execOp a.eval o).run P E.w = .ok .skip (E.w.setRow b (vals.toList.take off ++ (a.eval z).cells.toList ++ vals.toList.drop (off + i.size)).toArray):= by
    simp [execOp,ho,he,Instr.storeAt,Instr.sureAddr,Sem.run_bind,hrun,Sem.run]
   rw [hex,Oper.upon_skip]
   exact hK _ hI'
  ·cases h
 ·cases h
theorem run_app_room {t ty e ty' : TypeId} {i : TypeInfo} (ht : P.underlying t = some (.slice e)) (hi : P.info? e = some i) {w : World}
  {g n cap m c : Nat} {B : Option Addr} {cur : Array Value} (hg : w.heap[g]? = some (.cells cur ty' (0,0))) {news : List Value}
  (hf : (Builtin.firstCells i.size m (.slice B m c)).run P w = .ok news.toArray w) (hl : news.length = m * i.size) (h1 : ∀ u ∈ news,u.oneCell' = true) (hroom : n + m ≤ cap) (hfit : n * i.size + news.length ≤ cur.size) :
  (Builtin.append_ #[t,t] ty #[.slice (some ⟨g,0,none⟩) n cap,.slice B m c]).run P w =
   .ok (.slice (some ⟨g,0,none⟩) (n + m) cap) (w.setRow g (cur.toList.take (n * i.size) ++ news ++ cur.toList.drop (n * i.size + news.length)).toArray):= by
 have hst:= run_storeCells_at P g (n * i.size) ty' news 0 cur w hg (by simpa using hfit) h1
 simp only [Nat.add_zero] at hst
 simp [Builtin.append_,run_underlying ht,sizeOf,typeInfo,hi,Builtin.lenOf,hroom,hf,Addr.add_lit,hst]
theorem run_app_none {t ty e : TypeId} {i : TypeInfo} (ht : P.underlying t = some (.slice e)) (hi : P.info? e = some i) {w : World} {c : Nat} {B : Option Addr} :
  (Builtin.append_ #[t,t] ty #[.slice none 0 0,.slice B 0 c]).run P w = .ok (.slice none 0 0) w:= by
 cases B <;> simp [Builtin.append_,run_underlying ht,sizeOf,typeInfo,hi,Builtin.lenOf,Builtin.firstCells,loadCells,loadCellsFrom]
theorem run_app_grow {t ty e : TypeId} {i : TypeInfo} {z : Value} (ht : P.underlying t = some (.slice e)) (hi : P.info? e = some i) (hz : i.zero = some z) {w : World}
  {n cap m c : Nat} {A B : Option Addr} {olds news : List Value}
  (hfo : (Builtin.firstCells i.size n (.slice A n cap)).run P w.drew = .ok olds.toArray w.drew)
  (hf : (Builtin.firstCells i.size m (.slice B m c)).run P w.drew = .ok news.toArray w.drew) (hg : cap < n + m) (h63 : n + m ≤ 9223372036854775807)
  (hfit : Builtin.nextslicecap (n + m) cap * i.bytes ≤ 281474976710656) :
  (Builtin.append_ #[t,t] ty #[.slice A n cap,.slice B m c]).run P w =
   .ok (.slice (some ⟨w.heap.size,0,none⟩) (n + m) (grownCap w (n + m) cap e)) (w.drew.alloc (.cells (olds ++ news ++ (Builtin.zeroCells z.cells (grownCap w (n + m) cap e - (n + m))).toList).toArray e)):= by
 have hn : ¬ (n + m ≤ cap):= by omega
 have h63' : ¬ (9223372036854775807 < ((n : Int) + (m : Int))):= by omega
 have h48' : ¬ (281474976710656 < Builtin.nextslicecap (n + m) cap * i.bytes):= by omega
 simp [Builtin.append_,run_underlying ht,sizeOf,typeInfo,zeroValue,hi,hz,Builtin.lenOf,hn,h63',h48',Question.forced,hf,hfo,newRow,grownCap]
 congr 2
 apply Array.ext'
 simp [List.append_assoc]
theorem run_first {E : RE} {tk : Tok} {e : Nat} {rows : List AV} {v : Value} (hgn : goneB tk = false) (h : Rep E (.sl tk e rows) v) :
  ∃ A cap vs,v = .slice A rows.length cap ∧ RepL E.closed rows vs ∧ (∀ u ∈ vs,u.cells.size = e) ∧ (∀ u ∈ flat vs,u.oneCell' = true) ∧
   (Builtin.firstCells e rows.length v).run P E.w = .ok (flat vs).toArray E.w ∧ (Builtin.firstCells e rows.length v).run P E.w.drew = .ok (flat vs).toArray E.w.drew:= by
 simp only [Rep] at h
 obtain ⟨A,cap,vs,rfl,hcap,hr,he,h1,ht⟩:= h
 have hl:= hr.length
 have hfl:= flat_length he
 refine ⟨A,cap,vs,rfl,hr,he,h1,?_⟩
 by_cases hne : rows = []
 ·subst hne
  simp at hl
  subst hl
  cases A <;> simp [Builtin.firstCells,flat,loadCells,loadCellsFrom,Sem.run]
 ·have hat : ∃ S b o,A = some ⟨b,o,none⟩ ∧ At E.w S (flat vs) b o:= by
   cases tk with
   | none => obtain ⟨b,o,ha,hat⟩:= ht hne; exact ⟨_,b,o,ha,hat⟩
   | bor => obtain ⟨b,o,ha,hat⟩:= ht hne; exact ⟨_,b,o,ha,hat⟩
   | nil => exact absurd (List.eq_nil_of_length_eq_zero (by omega)) hne
   | own τ =>
    rcases ht with ⟨_,h0⟩ | ⟨g,cur,ty,ha,hat,_⟩
    ·exact absurd (List.eq_nil_of_length_eq_zero (by omega)) hne
    ·exact ⟨_,g,0,ha,hat⟩
   | fr τ =>
    rcases ht with ⟨h0,_⟩ | ⟨g,cur,ty,ha,hat,_⟩
    ·exact absurd h0 hne
    ·exact ⟨_,g,0,ha,hat⟩
   | gone => cases hgn
  obtain ⟨S,b,o,rfl,hat⟩:= hat
  have hlen : (flat vs).length = rows.length * e:= by rw [hfl,hl]
  constructor
  ·exact run_firstCells_some E.w e rows.length ⟨b,o,none⟩ rows.length cap (flat vs) hlen fun j v hj => by rw [Addr.add_lit]; exact (hat j v hj).2
  ·exact run_firstCells_some E.w.drew e rows.length ⟨b,o,none⟩ rows.length cap (flat vs) hlen fun j v hj => by rw [Addr.add_lit]; exact (hat j v hj).2
def stepApp (esz bytes : Nat) (d : Nat) (s y : AV) (env : Env) : Option Env :=
 match y with
 | .sl tk' e' rows' =>
  if goneB tk' = false ∧ (e' = esz ∨ rows' = []) then
  match s with
  | .sl (.fr τ) e rows => if e = esz then if rows.length + rows'.length ≤ 4294967296 ∧ bytes ≤ 32768 then some ((env.strip τ).put d (.sl (.fr [d]) esz (rows ++ rows'))) else none else none
  | .sl .nil _ _ => if rows'.length ≤ 4294967296 ∧ bytes ≤ 32768 then some (env.put d (.sl (.own [d]) esz rows')) else none
  | .sl (.own τ) e rows => if e = esz then if rows.length + rows'.length ≤ 4294967296 ∧ bytes ≤ 32768 then some ((env.strip τ).put d (.sl (.own [d]) esz (rows ++ rows'))) else none else none
  | _ => none
  else none
 | _ => none
end
end Go.Proofs.YtnndbbmidoidpaaGreatDoor.VL
end

section
namespace Go.Proofs.YtnndbbmidoidpaaGreatDoor.VL
open Go.RowKit
section
variable {P : Program} {R : RE} {N : Nat} {env : Env} {a : Act} {E : RE}
theorem Ext.drew (E : RE) : Ext E { E with w:= E.w.drew } :=
 ⟨fun _ _ h => h,fun _ h => h,fun _ _ _ _ h => h,fun _ _ _ _ h => h,fun _ _ h => h,fun _ _ h => ⟨h,rfl,fun _ h => h⟩,rfl,fun _ _ h => ⟨h,rfl⟩⟩
theorem Inv.drew (h : Inv R N env a E) : Inv R N env a { E with w:= E.w.drew }:= by
 have hx:= Ext.drew E
 refine ⟨h.defers,h.Nlim,h.lentl,h.size,h.B,h.Bok,h.below.drew,h.Mlt,h.MS,h.par,h.G,h.S0,h.Slt,h.ownlt,h.own1,fun c b hb => ?_,h.locd,h.loc1,h.mlocc,h.mloc1,fun k => (h.slots k).mono hx⟩
 obtain ⟨h1,h2,h3,cs,vals,ty,hcs,hh,hr,ho⟩:= h.locc c b hb
 exact ⟨h1,h2,h3,cs,vals,ty,hcs,hh,hr.mono hx,ho⟩
theorem Inv.grow (h : Inv R N env a E) {τ τ' : List Nat} {g cap e : Nat} {cur : Array Value} {ty : TypeId} {rows rows' : List AV} {vs vs' : List Value}
  (hh : E.w.heap[g]? = some (.cells cur ty (0,0))) (hown : E.own g τ) (hS : ∀ o,E.S g o → o < rows.length * e) (hat : At E.w E.S (flat vs) g 0)
  (hr : RepL E.closed rows vs) (hr' : RepL E.closed rows' vs') (he : ∀ u ∈ vs,u.cells.size = e) (he' : ∀ u ∈ vs',u.cells.size = e) (ho : ∀ u ∈ flat vs,u.oneCell' = true) (ho' : ∀ u ∈ flat vs',u.oneCell' = true)
  (hcap : rows.length + rows'.length ≤ cap) (hm : cap ≤ maxLen) (hc : cur.size = cap * e) :
  ∃ E',E'.w = E.w.setRow g (cur.toList.take (rows.length * e) ++ flat vs' ++ cur.toList.drop (rows.length * e + (flat vs').length)).toArray ∧ Inv R N (env.strip τ) a E' ∧
   Rep E' (.sl (.own τ') e (rows ++ rows')) (.slice (some ⟨g,0,none⟩) (rows.length + rows'.length) cap):= by
 have hvl:= hr.length
 have hvl':= hr'.length
 have hfl:= flat_length he
 have hfl':= flat_length he'
 have hI:= h.unownT τ
 have hglt:= (h.ownlt g τ hown).2
 have hgB:= (h.ownlt g τ hown).1
 have hnl : ∀ c,E.loc c ≠ some g:= fun c hc => (h.locc c g hc).2.2.1 τ hown
 have hno : ∀ t,¬ (E.unown τ).own g t:= fun t ht => ht.2 (h.own1 g t τ ht.1 hown)
 have hle : rows.length * e + rows'.length * e ≤ cap * e:= by rw [← Nat.add_mul]; exact Nat.mul_le_mul_right _ hcap
 have htake : (cur.toList.take (rows.length * e)) = flat vs:= by
  apply List.ext_getElem?
  intro j
  rw [List.getElem?_take]
  split
  ·rename_i hj
   have hjl : j < (flat vs).length:= by rw [hfl,hvl]; exact hj
   have h1:= (hat j _ (List.getElem?_eq_getElem hjl)).2
   simp only [World.cell?,hh,Nat.zero_add] at h1
   rw [List.getElem?_eq_getElem hjl]
   simpa using h1
  ·rename_i hj
   rw [List.getElem?_eq_none (by rw [hfl,hvl]; omega)]
 let new : Array Value:= (cur.toList.take (rows.length * e) ++ flat vs' ++ cur.toList.drop (rows.length * e + (flat vs').length)).toArray
 have hnewsz : new.size = cap * e:= by
  simp only [new,List.size_toArray,List.length_append,List.length_take,List.length_drop,Array.length_toList,hc,hfl',hvl']
  omega
 have hnew : ∀ (j : Nat) (u : Value),(flat (vs ++ vs'))[j]? = some u → new[j]? = some u:= by
  intro j u hj
  have e1 : flat (vs ++ vs') = flat vs ++ flat vs':= by simp [flat]
  rw [e1] at hj
  have hjl:= (List.getElem?_eq_some_iff.1 hj).1
  simp only [new,List.getElem?_toArray]
  rw [htake,List.getElem?_append_left hjl]
  exact hj
 let E' : RE:= { E.unown τ with w:= E.w.setRow g new,S:= fun b o => E.S b o ∨ (b = g ∧ o < (rows.length + rows'.length) * e),own:= fun b t => (E.unown τ).own b t ∨ (b = g ∧ t = τ') }
 have hother : ∀ b,b ≠ g → (E.w.setRow g new).heap[b]? = E.w.heap[b]?:= fun b hb => setRow_other E.w g b new hb
 have hself : (E.w.setRow g new).heap[g]? = some (.cells new ty (0,0)):= setRow_heap E.w g cur new ty (0,0) hh
 have hx : Ext (E.unown τ) E':= by
  refine ⟨fun _ _ h => .inl h,fun _ h => h,fun b o u hs hcell => ?_,fun b es ck hs hmap => ?_,fun c b hc => hc,fun b t ht => ⟨.inl ht,?_,fun o hs => ?_⟩,rfl,fun c b hc => ⟨hc,hother b fun e => (h.mlocc c b hc).2.2.2.1 τ (e ▸ hown)⟩⟩
  ·by_cases hb : b = g
   ·subst hb
    have ho1 : o < rows.length * e:= by
     rcases hs with hs | hs
     ·exact hS o hs
     ·have:= (h.Bok b hs).1; omega
    have hol : o < (flat vs).length:= by rw [hfl,hvl]; exact ho1
    have h1:= (hat o _ (List.getElem?_eq_getElem hol)).2
    rw [Nat.zero_add] at h1
    have h2 : E.w.cell? ⟨b,o,none⟩ = some u:= hcell
    rw [h1] at h2
    injection h2 with h2
    show (E.w.setRow b new).cell? ⟨b,o,none⟩ = some u
    simp only [World.cell?,hself]
    have h3:= hnew o u (by rw [show flat (vs ++ vs') = flat vs ++ flat vs' by simp [flat],List.getElem?_append_left hol,List.getElem?_eq_getElem hol,h2])
    simpa using h3
   ·show (E.w.setRow g new).cell? ⟨b,o,none⟩ = some u
    simp only [World.cell?,hother b hb]
    exact hcell
  ·by_cases hb : b = g
   ·subst hb
    have : E.w.heap[b]? = some (.map es ck):= hmap
    rw [hh] at this
    cases this
   ·exact (hother b hb).trans hmap
  ·have hb : b ≠ g:= fun e => hno t (e ▸ ht)
   exact hother b hb
  ·rcases hs with hs | ⟨hb,_⟩
   ·exact hs
   ·exact absurd ht (hb ▸ hno t)
 refine ⟨E',rfl,⟨hI.defers,hI.Nlim,hI.lentl,hI.size,hI.B,hI.Bok,belowX_setRow hI.below (.inl hgB) new,hI.Mlt,fun k hk o hs => ?_,hI.par,hI.G,fun b o hb => ?_,fun b o hb => ?_,fun b t ht => ?_,fun b t t' h1 h2 => ?_,fun c b hb => ?_,hI.locd,hI.loc1,fun c b hc => ?_,hI.mloc1,fun k => (hI.slots k).mono hx⟩,?_⟩
 ·rcases hs with hs | ⟨hs,_⟩
  ·exact h.MS k hk o hs
  ·have:= h.Mlt k hk; omega
 ·rw [← h.S0 b o hb]
  constructor
  ·rintro (hs | ⟨hs,_⟩)
   ·exact hs
   ·omega
  ·exact .inl
 ·show b < (E.w.setRow g new).heap.size
  rw [setRow_size]
  rcases hb with hb | ⟨hb,_⟩
  ·exact h.Slt b o hb
  ·omega
 ·show _ ∧ b < (E.w.setRow g new).heap.size
  rw [setRow_size]
  rcases ht with ht | ⟨ht,_⟩
  ·exact hI.ownlt b t ht
  ·subst ht; exact ⟨hgB,hglt⟩
 ·rcases h1 with h1 | ⟨h1,rfl⟩ <;> rcases h2 with h2 | ⟨h2,rfl⟩
  ·exact hI.own1 b t t' h1 h2
  ·exact absurd h1 (h2 ▸ hno t)
  ·exact absurd h2 (h1 ▸ hno t')
  ·rfl
 ·obtain ⟨h1,h2,h3,cs',vals',ty',hcs,hh',hrr,ho1⟩:= hI.locc c b hb
  have hbg : b ≠ g:= fun e => hnl c (e ▸ hb)
  refine ⟨h1,fun o hs => ?_,fun t ht => ?_,cs',vals',ty',hcs,(hother b hbg).trans hh',hrr.mono hx,ho1⟩
  ·rcases hs with hs | ⟨hs,_⟩
   ·exact h2 o hs
   ·exact hbg hs
  ·rcases ht with ht | ⟨ht,_⟩
   ·exact h3 t ht
   ·exact hbg ht
 ·obtain ⟨h1,h2,h3,h4,h5⟩:= h.mlocc c b hc
  have hbg : b ≠ g:= fun e => h4 τ (e ▸ hown)
  refine ⟨h1,by show b < (E.w.setRow g new).heap.size; rw [setRow_size]; exact h2,fun o hs => ?_,fun t ht => ?_,h5⟩
  ·rcases hs with hs | ⟨hs,_⟩
   ·exact h3 o hs
   ·exact hbg hs
  ·rcases ht with ht | ⟨ht,_⟩
   ·exact h4 t ht.1
   ·exact hbg ht
 ·simp only [Rep]
  have hcl : Ext E.closed E'.closed:= by
   have:= hx.closed
   rwa [RE.unown_closed] at this
  refine ⟨_,cap,vs ++ vs',by rw [List.length_append],by rw [List.length_append]; exact hcap,(hr.mono hcl).append (hr'.mono hcl),?_,?_,.inr ⟨g,new,ty,rfl,?_,hself,hm,hnewsz,.inr ⟨rfl,rfl⟩,fun o hs => ?_⟩⟩
  ·intro u hu
   rcases List.mem_append.1 hu with hu | hu
   ·exact he u hu
   ·exact he' u hu
  ·intro u hu
   rw [show flat (vs ++ vs') = flat vs ++ flat vs' by simp [flat]] at hu
   rcases List.mem_append.1 hu with hu | hu
   ·exact ho u hu
   ·exact ho' u hu
  ·intro j u hj
   have hjl:= (List.getElem?_eq_some_iff.1 hj).1
   rw [show flat (vs ++ vs') = flat vs ++ flat vs' by simp [flat],List.length_append,hfl,hfl',hvl,hvl',← Nat.add_mul] at hjl
   refine ⟨.inr ⟨rfl,by omega⟩,?_⟩
   show (E.w.setRow g new).cell? _ = some u
   simp only [World.cell?,hself,Nat.zero_add]
   simpa using hnew j u hj
  ·rw [List.length_append]
   rcases hs with hs | ⟨_,hs⟩
   ·have:= hS o hs
    have h2 : rows.length * e ≤ (rows.length + rows'.length) * e:= Nat.mul_le_mul_right _ (by omega)
    omega
   ·exact hs
theorem size_zeroCells' {z : Value} {s n : Nat} (hz : z.cells.size = s) : (Builtin.zeroCells z.cells n).toList.length = n * s:= by
 rw [Array.length_toList,size_zeroCells,hz]
theorem run_app_zero {t ty e : TypeId} {i : TypeInfo} (ht : P.underlying t = some (.slice e)) (hi : P.info? e = some i) {w : World} {c : Nat} {A B : Option Addr} :
  (Builtin.append_ #[t,t] ty #[.slice A 0 0,.slice B 0 c]).run P w = .ok (.slice A 0 0) w:= by
 cases A <;> cases B <;> simp [Builtin.append_,run_underlying ht,sizeOf,typeInfo,hi,Builtin.lenOf,Builtin.firstCells,loadCells,loadCellsFrom,storeCells,Sem.run]
theorem zeroCells_one {z : Array Value} (h1 : ∀ u ∈ z.toList,u.oneCell' = true) (hpos : 0 < z.size) (n : Nat) : ∀ u ∈ (Builtin.zeroCells z n).toList,u.oneCell' = true:= by
 intro u hu
 simp only [Builtin.zeroCells,Array.toList_map,List.mem_map] at hu
 obtain ⟨i,_,rfl⟩:= hu
 have hlt : i % z.size < z.size:= Nat.mod_lt _ hpos
 have : z[i % z.size]! = z[i % z.size]:= by simp [hlt]
 rw [this]
 exact h1 _ (by simp)
theorem wp_app (hI : Inv R N env a E) {o : Oper} {c : Call} {t e : TypeId} {i : TypeInfo} {z : Value} {x y : Operand} {d : Nat} (ho : o.op = .call c) (hd : o.dst = some d) (hdN : d < N) (hc : c.callee = .builtin .append)
  (hat : c.argTypes.toList = [t,t]) (har : c.args.toList = [x,y]) (ht : P.underlying t = some (.slice e)) (hi : P.info? e = some i) (hz : i.zero = some z) (hzs : z.cells.size = i.size) (hsz : 0 < i.size) (hz1 : (z.cells.toList.all fun u => u.oneCell') = true)
  {env' : Env} (h : stepApp i.size i.bytes d (env.ev x) (env.ev y) env = some env')
  {K : Act → World → Prop} {Q : Exit → Act → World → Prop} (hK : ∀ v E',Inv R N env' (a.put (some d) v) E' → K (a.put (some d) v) E'.w) : o.wp P a E.w K Q:= by
 have hargs : c.args = #[x,y]:= by rw [← Array.toArray_toList (xs:= c.args),har]
 have hats : c.argTypes = #[t,t]:= by rw [← Array.toArray_toList (xs:= c.argTypes),hat]
 have hx:= hI.ev x
 have hy:= hI.ev y
 have wpof : ∀ {v : Value} {w' : World},(Builtin.append_ #[t,t] o.type #[a.eval x,a.eval y]).run P E.w = .ok v w' → K (a.put (some d) v) w' → o.wp P a E.w K Q:= by
  intro v w' hr hk
  unfold Oper.wp
  have hex : (execOp a.eval o).run P E.w = .ok (.value v) w':= by
   simp [execOp,ho,hc,hargs,hats,resolve,invoke,builtin,Sem.run_bind,hr,Sem.run]
  rw [hex,Oper.upon_value,hd]
  exact hk
 have hz1' : ∀ u ∈ z.cells.toList,u.oneCell' = true:= fun u hu => (List.all_eq_true.1 hz1) u hu
 unfold stepApp at h
 split at h
 case h_2 => cases h
 rename_i tk' e' rows' hyv
 rw [hyv] at hy
 split at h
 case isFalse => cases h
 rename_i hee
 obtain ⟨hgn,hee⟩:= hee
 have hy' : ∃ B cap' vs',a.eval y = .slice B rows'.length cap' ∧ RepL E.closed rows' vs' ∧ (∀ u ∈ vs',u.cells.size = i.size) ∧ (∀ u ∈ flat vs',u.oneCell' = true) ∧
   (Builtin.firstCells i.size rows'.length (a.eval y)).run P E.w = .ok (flat vs').toArray E.w ∧ (Builtin.firstCells i.size rows'.length (a.eval y)).run P E.w.drew = .ok (flat vs').toArray E.w.drew:= by
  rcases hee with rfl | hnil
  ·exact run_first hgn hy
  ·obtain ⟨B,cap',vs',e1,h1,h2,h3,h4,h5⟩:= run_first (P:= P) hgn hy
   subst hnil
   have hl:= h1.length
   simp at hl
   subst hl
   refine ⟨B,cap',[],e1,h1,by simp,by simp [flat],?_,?_⟩
   ·rw [e1]; cases B <;> simp [Builtin.firstCells,flat,loadCells,loadCellsFrom,Sem.run]
   ·rw [e1]; cases B <;> simp [Builtin.firstCells,flat,loadCells,loadCellsFrom,Sem.run]
 obtain ⟨B,cap',vs',ey,hr',he',ho',hf1,hf2⟩:= hy'
 rw [ey] at hf1 hf2
 have hvl':= hr'.length
 have hfl':= flat_length he'
 split at h
 · -- onto what nobody else knows
  rename_i τ e1 rows hxv
  rw [hxv] at hx
  split at h
  case isFalse => cases h
  rename_i he1
  subst he1
  split at h
  case isFalse => cases h
  rename_i hb
  injection h with h
  subst h
  obtain ⟨A,cap,vs,ex,hr,he,ho1,hfo1,hfo2⟩:= run_first (P:= P) rfl hx
  have hvl:= hr.length
  have hfl:= flat_length he
  have hmul : (rows.length + rows'.length) * i.bytes ≤ 140737488355328:= by
   have:= Nat.mul_le_mul hb.1 hb.2
   omega
  have hfa : flat (vs ++ vs') = flat vs ++ flat vs':= by simp [flat]
  simp only [Rep] at hx
  obtain ⟨A2,cap2,vs2,ex2,hcap,hr2,he2,ho2,htk⟩:= hx
  rw [ex] at ex2
  injection ex2 with q1 _ q2
  subst q1 q2
  by_cases hroom : rows.length + rows'.length ≤ cap
  ·rcases htk with ⟨hrn,hc0⟩ | ⟨g,cur,ty,hA,hat',hh,hm,hcs,hown,hgS,hone⟩
   ·subst hrn hc0
    have h2 : rows' = []:= by
     apply List.eq_nil_of_length_eq_zero
     have : (0 : Nat) + rows'.length ≤ 0:= hroom
     omega
    subst h2
    refine wpof (by rw [ex,ey]; exact run_app_zero ht hi) (hK _ _ ((hI.unownT τ).put hdN ?_))
    simp only [Rep]
    exact ⟨A,0,[],rfl,Nat.le_refl _,by simp [RepL],by simp,by simp [flat],.inl ⟨rfl,rfl⟩⟩
   ·subst hA
    have hvl2:= hr2.length
    have hfl2:= flat_length he2
    have hrun:= run_app_room (P:= P) (ty:= o.type) ht hi hh hf1 (n:= rows.length) (cap:= cap) (by rw [hfl',hvl']) ho' hroom (by rw [hfl',hvl',hcs,← Nat.add_mul]; exact Nat.mul_le_mul_right _ hroom)
    obtain ⟨new,hnewdef⟩ : ∃ new,new = (cur.toList.take (rows.length * i.size) ++ flat vs' ++ cur.toList.drop (rows.length * i.size + (flat vs').length)).toArray:= ⟨_,rfl⟩
    rw [← hnewdef] at hrun
    have hle : rows.length * i.size + rows'.length * i.size ≤ cap * i.size:= by rw [← Nat.add_mul]; exact Nat.mul_le_mul_right _ hroom
    have htake : (cur.toList.take (rows.length * i.size)) = flat vs2:= by
     apply List.ext_getElem?
     intro j
     rw [List.getElem?_take]
     split
     ·rename_i hj
      have hjl : j < (flat vs2).length:= by rw [hfl2,hvl2]; exact hj
      have h1:= (hat' j _ (List.getElem?_eq_getElem hjl)).2
      simp only [World.cell?,hh,Nat.zero_add] at h1
      rw [List.getElem?_eq_getElem hjl]
      simpa using h1
     ·rename_i hj
      rw [List.getElem?_eq_none (by rw [hfl2,hvl2]; omega)]
    have hnewsz : new.size = cap * i.size:= by
     simp only [hnewdef,List.size_toArray,List.length_append,List.length_take,List.length_drop,Array.length_toList,hcs,hfl',hvl']
     omega
    have hself : (E.w.setRow g new).heap[g]? = some (.cells new ty (0,0)):= setRow_heap E.w g cur new ty (0,0) hh
    obtain ⟨hI',hx'⟩:= hI.setLab [d] (w':= E.w.setRow g new) hown hgS (setRow_size _ _ _) rfl rfl rfl fun b hb => setRow_other E.w g b new hb
    refine wpof (by rw [ex,ey]; exact hrun) (hK _ _ (hI'.put hdN ?_))
    have hcl:= hx'.closed
    rw [RE.unown_closed] at hcl
    have hfa2 : flat (vs2 ++ vs') = flat vs2 ++ flat vs':= by simp [flat]
    simp only [Rep]
    refine ⟨_,cap,vs2 ++ vs',by rw [List.length_append],by rw [List.length_append]; exact hroom,(hr2.mono hcl).append (hr'.mono hcl),fun u hu => (List.mem_append.1 hu).elim (he2 u) (he' u),fun u hu => ?_,
     .inr ⟨g,new,ty,rfl,fun j u hj => ⟨trivial,?_⟩,hself,hm,hnewsz,.inr (by simp),hgS,fun u hu => ?_⟩⟩
    ·rw [hfa2] at hu
     exact (List.mem_append.1 hu).elim (ho2 u) (ho' u)
    ·show (E.w.setRow g new).cell? _ = some u
     simp only [World.cell?,hself,Nat.zero_add]
     rw [hfa2] at hj
     have hjl:= (List.getElem?_eq_some_iff.1 hj).1
     rw [hnewdef]
     simp only [List.getElem?_toArray]
     rw [htake,List.getElem?_append_left hjl]
     exact hj
    ·rw [hnewdef] at hu
     rcases List.mem_append.1 hu with hu | hu
     ·rcases List.mem_append.1 hu with hu | hu
      ·exact hone u (List.mem_of_mem_take hu)
      ·exact ho' u hu
     ·exact hone u (List.mem_of_mem_drop hu)
  ·rw [ex] at hfo2
   have hrun:= run_app_grow (P:= P) (ty:= o.type) ht hi hz (w:= E.w) hfo2 hf2 (by omega) (by omega) (growslice_fits (by omega) hmul)
   have hcapge:= grownCap_ge E.w (rows.length + rows'.length) cap e
   have hcaple:= grownCap_le_maxLen E.w (rows.length + rows'.length) cap e (by simp only [maxLen]; omega)
   have hU:= hI.drew.unownT τ
   obtain ⟨hI',hx'⟩:= hU.newLab [d] (.cells (flat vs ++ flat vs' ++ (Builtin.zeroCells z.cells (grownCap E.w (rows.length + rows'.length) cap e - (rows.length + rows'.length))).toList).toArray e)
   refine wpof (by rw [ex,ey]; exact hrun) (hK _ _ (hI'.put hdN ?_))
   have hcl:= hx'.closed
   rw [RE.unown_closed] at hcl
   have hdr:= (Ext.drew E).closed
   simp only [Rep]
   refine ⟨_,grownCap E.w (rows.length + rows'.length) cap e,vs ++ vs',by rw [List.length_append],by rw [List.length_append]; omega,((hr.mono hdr).mono hcl).append ((hr'.mono hdr).mono hcl),fun u hu => (List.mem_append.1 hu).elim (he u) (he' u),fun u hu => ?_,
    .inr ⟨E.w.heap.size,_,e,rfl,fun j u hj => ⟨trivial,?_⟩,heap_alloc_new _ _,hcaple,?_,.inr ⟨rfl,by simp⟩,fun o hs => ?_,fun u hu => ?_⟩⟩
   ·rw [hfa] at hu
    exact (List.mem_append.1 hu).elim (ho1 u) (ho' u)
   ·rw [hfa] at hj
    have hjl:= (List.getElem?_eq_some_iff.1 hj).1
    show (World.alloc E.w.drew _).cell? ⟨E.w.drew.heap.size,0 + j,none⟩ = some u
    simp only [World.cell?]
    rw [heap_alloc_new E.w.drew]
    simp only [Nat.zero_add]
    rw [if_neg (by simp),List.getElem?_toArray]
    rw [List.getElem?_append_left hjl]
    exact hj
   ·simp only [List.size_toArray,List.length_append]
    rw [hfl,hfl',size_zeroCells' hzs,hvl,hvl',← Nat.add_mul,← Nat.add_mul]
    congr 1
    omega
   ·have:= hI.Slt _ o hs
    exact absurd this (Nat.lt_irrefl _)
   ·rcases List.mem_append.1 hu with hu | hu
    ·exact (List.mem_append.1 hu).elim (ho1 u) (ho' u)
    ·exact zeroCells_one hz1' (by omega) _ u hu
 · -- onto nil
  rename_i e1 r1 hxv
  rw [hxv] at hx
  simp only [Rep] at hx
  obtain ⟨A,cap,vs,ex,hcap,hr,he,ho1,hA,hcap0⟩:= hx
  subst hA hcap0
  split at h
  case isFalse => cases h
  rename_i hb
  injection h with h
  subst h
  have hr1 : r1 = []:= List.eq_nil_of_length_eq_zero (by omega)
  subst hr1
  by_cases hm0 : rows' = []
  ·subst hm0
   refine wpof (by rw [ex,ey]; exact run_app_none ht hi) (hK _ E (hI.put hdN ?_))
   simp only [Rep]
   simp at hvl'
   subst hvl'
   exact ⟨none,0,[],rfl,Nat.le_refl _,by simp [RepL],by simp,by simp [flat],.inl ⟨rfl,rfl⟩⟩
  ·have hpos : 0 < rows'.length:= by rcases rows' with _ | ⟨q,qs⟩; exact absurd rfl hm0; simp
   have hmul : rows'.length * i.bytes ≤ 140737488355328:= by
    have:= Nat.mul_le_mul hb.1 hb.2
    omega
   have hrun:= run_app_grow (P:= P) (ty:= o.type) (n:= 0) (cap:= 0) (A:= none) (olds:= []) ht hi hz (w:= E.w) (by simp [Builtin.firstCells,Sem.run]) hf2 (by omega) (by omega) (growslice_fits (by omega) (by simpa using hmul))
   have hcapge:= grownCap_ge E.w (0 + rows'.length) 0 e
   have hcaple:= grownCap_le_maxLen E.w (0 + rows'.length) 0 e (by simp only [maxLen]; omega)
   obtain ⟨E',hw',hI',_,hrep⟩:= hI.drew.newOwn [d] (ty:= e) (rows:= rows') (vs:= vs') (e:= i.size) (cap:= grownCap E.w (0 + rows'.length) 0 e)
    (rest:= (Builtin.zeroCells z.cells (grownCap E.w (0 + rows'.length) 0 e - (0 + rows'.length))).toList) (hr'.mono (Ext.drew E).closed) he' ho' (by omega) hcaple (by
     rw [List.length_append,hfl',size_zeroCells' hzs,hvl',← Nat.add_mul]; congr 1; omega)
   simp only [Nat.zero_add] at hrun hrep hw'
   refine wpof (by rw [ex,ey]; simpa using hrun) ?_
   have:= hK _ E' (hI'.put hdN hrep)
   rw [hw'] at this
   simpa using this
 · -- onto what is owned
  rename_i τ e1 rows hxv
  rw [hxv] at hx
  split at h
  case isFalse => cases h
  rename_i he1
  subst he1
  split at h
  case isFalse => cases h
  rename_i hb
  injection h with h
  subst h
  obtain ⟨A,cap,vs,ex,hr,he,ho1,_,hfo2⟩:= run_first (P:= P) rfl hx
  have hvl:= hr.length
  have hfl:= flat_length he
  have hmul : (rows.length + rows'.length) * i.bytes ≤ 140737488355328:= by
   have:= Nat.mul_le_mul hb.1 hb.2
   omega
  by_cases hroom : rows.length + rows'.length ≤ cap
  ·simp only [Rep] at hx
   obtain ⟨A2,cap2,vs2,ex2,hcap,hr2,he2,ho2,htk⟩:= hx
   have hvl2:= hr2.length
   rw [ex] at ex2
   injection ex2 with h1 _ h2
   subst h1 h2
   rcases htk with ⟨hA,hc0⟩ | ⟨g,cur,ty,hA,hat',hh,hm,hcs,hown,hS⟩
   ·subst hA hc0
    have h1 : rows = []:= List.eq_nil_of_length_eq_zero (by omega)
    have h2 : rows' = []:= List.eq_nil_of_length_eq_zero (by omega)
    subst h1 h2
    refine wpof (by rw [ex,ey]; exact run_app_none ht hi) (hK _ (E.unown τ) ((hI.unownT τ).put hdN ?_))
    simp only [Rep]
    exact ⟨none,0,[],rfl,Nat.le_refl _,by simp [RepL],by simp,by simp [flat],.inl ⟨rfl,rfl⟩⟩
   ·subst hA
    have hrun:= run_app_room (P:= P) (ty:= o.type) ht hi hh hf1 (n:= rows.length) (cap:= cap) (by rw [hfl',hvl']) ho' hroom (by rw [hfl',hvl',hcs,← Nat.add_mul]; exact Nat.mul_le_mul_right _ hroom)
    obtain ⟨E',hw',hI',hrep⟩:= hI.grow (τ':= [d]) hh hown hS hat' hr2 hr' he2 he' ho2 ho' hroom hm hcs
    refine wpof (by rw [ex,ey]; exact hrun) ?_
    have:= hK _ E' (hI'.put hdN hrep)
    rw [hw'] at this
    exact this
  ·rw [ex] at hfo2
   have hrun:= run_app_grow (P:= P) (ty:= o.type) ht hi hz (w:= E.w) hfo2 hf2 (by omega) (by omega) (growslice_fits (by omega) hmul)
   have hcapge:= grownCap_ge E.w (rows.length + rows'.length) cap e
   have hcaple:= grownCap_le_maxLen E.w (rows.length + rows'.length) cap e (by simp only [maxLen]; omega)
   have hbase : RepL ({ E with w:= E.w.drew } : RE).closed (rows ++ rows') (vs ++ vs'):= (hr.mono (Ext.drew E).closed).append (hr'.mono (Ext.drew E).closed)
   have hfa : flat (vs ++ vs') = flat vs ++ flat vs':= by simp [flat]
   have hunown : RepL (({ E with w:= E.w.drew } : RE).unown τ).closed (rows ++ rows') (vs ++ vs'):= hbase
   obtain ⟨E',hw',hI',_,hrep⟩:= (hI.drew.unownT τ).newOwn [d] (ty:= e) (rows:= rows ++ rows') (vs:= vs ++ vs') (e:= i.size) (cap:= grownCap E.w (rows.length + rows'.length) cap e)
    (rest:= (Builtin.zeroCells z.cells (grownCap E.w (rows.length + rows'.length) cap e - (rows.length + rows'.length))).toList) hunown
    (fun u hu => (List.mem_append.1 hu).elim (he u) (he' u)) (fun u hu => by rw [hfa] at hu; exact (List.mem_append.1 hu).elim (ho1 u) (ho' u)) (by rw [List.length_append]; omega) hcaple (by
     rw [hfa,List.length_append,List.length_append,hfl,hfl',size_zeroCells' hzs,hvl,hvl',← Nat.add_mul,← Nat.add_mul]; congr 1; omega)
   refine wpof (by rw [ex,ey]; exact hrun) ?_
   have:= hK _ E' (hI'.put hdN hrep)
   rw [hw',hfa,List.length_append] at this
   exact this
 ·cases h
def rowsOf (esz : Nat) : List AV → Option (List AV)
 | [] => some []
 | x :: xs => match closeV x with
  | some r => if r.row = true then if oneL (cellsOf r) = true then if (cellsOf r).length = esz then match rowsOf esz xs with
    | some rs => some (r :: rs)
    | none => none
   else none else none else none
  | none => none
def stepBslice (esz d : Nat) (xs : List AV) (env : Env) : Option Env :=
 match rowsOf esz xs with
 | some rows => some (env.put d (.sl (.own [d]) esz rows))
 | none => none
mutual
theorem plain_rep : ∀ {x : AV} {E : RE} {v : Value},plainV x = true → Rep E x v → Rep E.closed (unownV x) v
 | .lit u,E,v,_,h => by simpa only [unownV,Rep] using h
 | .gl i,E,v,_,h => by simp only [unownV,Rep] at h ⊢; exact h
 | .gp g,E,v,_,h => by simpa only [unownV,Rep] using h
 | .rp cs,E,v,_,h => by simp only [unownV,Rep] at h ⊢; exact h
 | .mp k vs,E,v,_,h => by simp only [unownV,Rep] at h ⊢; exact h
 | .dead,E,v,_,h => by simp only [unownV,Rep]
 | .sl .none e rows,E,v,_,h => by simp only [unownV,Rep] at h ⊢; exact h
 | .sl .nil e rows,E,v,_,h => by simp only [unownV,Rep] at h ⊢; exact h
 | .sl .bor e rows,E,v,hp,h => by simp [plainV] at hp
 | .sl (.own τ) e rows,E,v,_,h => by
  simp only [unownV,Rep] at h ⊢
  obtain ⟨A,cap,vs,rfl,hcap,hr,he,h1,ht⟩:= h
  refine ⟨A,cap,vs,rfl,hcap,hr,he,h1,fun hne => ?_⟩
  rcases ht with ⟨_,h0⟩ | ⟨g,cur,ty,ha,hat,_⟩
  ·exact absurd (List.eq_nil_of_length_eq_zero (by omega)) hne
  ·exact ⟨g,0,ha,hat⟩
 | .sl (.fr τ) e rows,E,v,hp,h => by simp [plainV] at hp
 | .sl .gone e rows,E,v,hp,h => by simp [plainV] at hp
 | .mf t al,E,v,hp,h => by simp [plainV] at hp
 | .agg cs,E,v,hp,h => by
  simp only [plainV] at hp
  simp only [unownV,Rep] at h ⊢
  obtain ⟨vs,rfl,h⟩:= h
  exact ⟨vs,rfl,plainL_rep hp h⟩
 | .tup cs,E,v,hp,h => by
  simp only [plainV] at hp
  simp only [unownV,Rep] at h ⊢
  obtain ⟨vs,rfl,h⟩:= h
  exact ⟨vs,rfl,plainL_rep hp h⟩
 | .ifc t x,E,v,hp,h => by
  simp only [plainV] at hp
  simp only [unownV,Rep] at h ⊢
  obtain ⟨u,rfl,h⟩:= h
  exact ⟨u,rfl,plain_rep hp h⟩
 | .clo f a b,E,v,hp,h => by
  simp only [plainV,Bool.and_eq_true] at hp
  simp only [unownV,Rep] at h ⊢
  obtain ⟨fs,cs,rfl,h1,h2⟩:= h
  exact ⟨fs,cs,rfl,plainL_rep hp.1 h1,plainL_rep hp.2 h2⟩
 | .bp cs,E,v,hp,h => by simp [plainV] at hp
 | .lp c o,E,v,hp,h => by simp [plainV] at hp
 | .ml c o n k g e,E,v,hp,h => by simp [plainV] at hp
 | .mu c k vs,E,v,hp,h => by simp [plainV] at hp
theorem plainL_rep : ∀ {xs : List AV} {E : RE} {vs : List Value},plainL xs = true → RepL E xs vs → RepL E.closed (unownL xs) vs
 | [],E,vs,_,h => by simpa only [unownL,RepL] using h
 | x :: xs,E,vs,hp,h => by
  simp only [plainL,Bool.and_eq_true] at hp
  simp only [unownL,RepL] at h ⊢
  obtain ⟨v,ws,rfl,h1,h2⟩:= h
  exact ⟨v,ws,rfl,plain_rep hp.1 h1,plainL_rep hp.2 h2⟩
end
theorem close1_rep {x r : AV} {v : Value} (hI : Inv R N env a E) (h : closeV.closeV1 x = some r) (hr : Rep E x v) : Rep E.closed r v:= by
 cases x with
 | lit u => simp only [closeV.closeV1] at h; injection h with h; subst h; simpa only [Rep] using hr
 | gl i => simp only [closeV.closeV1] at h; injection h with h; subst h; simp only [Rep] at hr ⊢; exact hr
 | rp cs => simp only [closeV.closeV1] at h; injection h with h; subst h; simp only [Rep] at hr ⊢; exact hr
 | mp k vs => simp only [closeV.closeV1] at h; injection h with h; subst h; simp only [Rep] at hr ⊢; exact hr
 | sl t e rows =>
  have main : ∀ t',t' = .none → t ≠ .bor → t ≠ .nil → (∀ τ,t ≠ .fr τ) → t ≠ .gone → Rep E.closed (.sl t' e rows) v:= by
   rintro t' rfl h1 h2 h3 h4
   simp only [Rep] at hr ⊢
   obtain ⟨A,cap,vs,rfl,hcap,hrr,he,ho,ht⟩:= hr
   refine ⟨A,cap,vs,rfl,hcap,hrr,he,ho,fun hne => ?_⟩
   cases t with
   | none => exact ht hne
   | bor => exact absurd rfl h1
   | nil => exact absurd rfl h2
   | own τ =>
    rcases ht with ⟨_,h0⟩ | ⟨g,cur,ty,hA,hat,_⟩
    ·exact absurd (List.eq_nil_of_length_eq_zero (by omega)) hne
    ·exact ⟨g,0,hA,hat⟩
   | fr τ => exact absurd rfl (h3 τ)
   | gone => exact absurd rfl h4
  cases t with
  | bor => simp [closeV.closeV1] at h
  | fr τ => simp [closeV.closeV1] at h
  | gone => simp [closeV.closeV1] at h
  | none => simp only [closeV.closeV1] at h; injection h with h; subst h; exact main _ rfl (by simp) (by simp) (by simp) (by simp)
  | own τ => simp only [closeV.closeV1] at h; injection h with h; subst h; exact main _ rfl (by simp) (by simp) (by simp) (by simp)
  | nil =>
   cases rows with
   | nil => simp only [closeV.closeV1] at h; injection h with h; subst h; simp only [Rep] at hr ⊢; exact hr
   | cons q qs => simp [closeV.closeV1] at h
 | ifc t y =>
  cases y with
  | lit u => simp only [closeV.closeV1] at h; injection h with h; subst h; simpa only [Rep] using hr
  | rp cs => simp only [closeV.closeV1] at h; injection h with h; subst h; simp only [Rep] at hr ⊢; exact hr
  | _ => simp [closeV.closeV1] at h
 | clo f p q =>
  simp only [closeV.closeV1] at h
  split at h
  ·rename_i hp
   injection h with h
   subst h
   exact plain_rep (x:= .clo f p q) (by simpa only [plainV] using hp) hr
  ·cases h
 | _ => simp [closeV.closeV1] at h
theorem close1L_rep (hI : Inv R N env a E) : ∀ {xs rs : List AV} {vs : List Value},xs.mapM closeV.closeV1 = some rs → RepL E xs vs → RepL E.closed rs vs
 | [],rs,vs,h,hr => by
  simp at h
  subst h
  simpa only [RepL] using hr
 | x :: xs,rs,vs,h,hr => by
  rw [List.mapM_cons] at h
  simp only [RepL] at hr
  obtain ⟨v,us,rfl,h1,h2⟩:= hr
  cases hx : closeV.closeV1 x with
  | none => simp [hx] at h
  | some r =>
   cases hxs : xs.mapM closeV.closeV1 with
   | none => simp [hx,hxs] at h
   | some rs' =>
    simp [hx,hxs] at h
    subst h
    simp only [RepL]
    exact ⟨v,us,rfl,close1_rep hI hx h1,close1L_rep hI hxs h2⟩
theorem close_rep {x r : AV} {v : Value} (hI : Inv R N env a E) (h : closeV x = some r) (hr : Rep E x v) : Rep E.closed r v:= by
 cases x with
 | agg cs =>
  simp only [closeV] at h
  split at h
  ·rename_i l hl
   injection h with h
   subst h
   simp only [Rep] at hr ⊢
   obtain ⟨vs,rfl,hr⟩:= hr
   exact ⟨vs,rfl,close1L_rep hI hl hr⟩
  ·cases h
 | ifc t y =>
  simp only [closeV] at h
  split at h
  ·rename_i u hu
   injection h with h
   subst h
   simp only [Rep] at hr ⊢
   obtain ⟨w,rfl,hr⟩:= hr
   exact ⟨w,rfl,close1_rep hI hu hr⟩
  ·cases h
 | sl t e rows =>
  refine close1_rep hI (x:= .sl t e rows) ?_ hr
  rw [← h]
  cases t <;> cases rows <;> rfl
 | lit u => exact close1_rep hI (x:= .lit u) h hr
 | gl i => exact close1_rep hI (x:= .gl i) h hr
 | rp cs => exact close1_rep hI (x:= .rp cs) h hr
 | mp k vs => exact close1_rep hI (x:= .mp k vs) h hr
 | clo f p q => exact close1_rep hI (x:= .clo f p q) h hr
 | dead => simp only [closeV] at h; injection h with h; subst h; simp only [Rep]
 | _ => simp [closeV] at h
theorem rowsOf_rep (hI : Inv R N env a E) {esz : Nat} : ∀ {xs rows : List AV} {vs : List Value},rowsOf esz xs = some rows → RepL E xs vs →
  RepL E.closed rows vs ∧ (∀ u ∈ vs,u.cells.size = esz) ∧ (∀ u ∈ flat vs,u.oneCell' = true)
 | [],rows,vs,h,hr => by
  simp only [rowsOf] at h
  injection h with h
  subst h
  simp only [RepL] at hr
  subst hr
  simp [RepL,flat]
 | x :: xs,rows,vs,h,hr => by
  simp only [rowsOf] at h
  split at h
  case h_2 => cases h
  rename_i r hc
  split at h
  case isFalse => cases h
  rename_i hrow
  split at h
  case isFalse => cases h
  rename_i hone
  split at h
  case isFalse => cases h
  rename_i hlen
  split at h
  case h_2 => cases h
  rename_i rs hrs
  injection h with h
  subst h
  simp only [RepL] at hr
  obtain ⟨v,us,rfl,h1,h2⟩:= hr
  obtain ⟨k1,k2,k3⟩:= rowsOf_rep hI hrs h2
  have hv:= close_rep hI hc h1
  have hvc:= rep_cells hv (row_or hrow)
  have hl:= hvc.length
  rw [Array.length_toList] at hl
  refine ⟨by simp only [RepL]; exact ⟨v,us,rfl,hv,k1⟩,fun u hu => ?_,fun u hu => ?_⟩
  ·rcases List.mem_cons.1 hu with rfl | hu
   ·omega
   ·exact k2 u hu
  ·have : flat (v :: us) = v.cells.toList ++ flat us:= by simp [flat]
   rw [this] at hu
   rcases List.mem_append.1 hu with hu | hu
   ·exact repL_one hvc (oneL_spec hone) u hu
   ·exact k3 u hu
end
end Go.Proofs.YtnndbbmidoidpaaGreatDoor.VL
end

section
namespace Go.Proofs.YtnndbbmidoidpaaGreatDoor.VL
open Go.RowKit
section
variable {P : Program} {R : RE} {N : Nat} {env : Env} {a : Act} {E : RE}
theorem fill_rows {size : Nat} : ∀ (vs : List Value) (k : Nat) (cells : Array Value),(∀ u ∈ vs,u.cells.size = size) → (k + vs.length) * size ≤ cells.size →
  ∃ out : Array Value,Instr.fill (fun i => some (i * size,size)) cells ((List.range' k vs.length).zip vs) = some out ∧ out.toList = cells.toList.take (k * size) ++ flat vs ++ cells.toList.drop ((k + vs.length) * size)
 | [],k,cells,_,_ => ⟨cells,by simp [Instr.fill],by simp [flat]⟩
 | v :: vs,k,cells,h,hl => by
  have hv:= h v (by simp)
  simp only [List.length_cons] at hl
  have hmul : (k + (vs.length + 1)) * size = k * size + size + vs.length * size:= by rw [Nat.add_mul,Nat.add_mul]; omega
  have h2 : (k + 1 + vs.length) * size = k * size + size + vs.length * size:= by rw [Nat.add_mul,Nat.add_mul]; omega
  have h3 : (k + 1) * size = k * size + size:= by rw [Nat.add_mul]; omega
  rw [hmul] at hl
  have hz:= setZip_eq cells (k * size) v.cells.toList 0 cells (by simp [hv]; omega)
  simp only [Nat.add_zero,Array.length_toList,hv] at hz
  have hsz : (v.cells.toList.zipIdx.foldl (fun cs (x : Value × Nat) => cs.setIfInBounds (k * size + x.2) x.1) cells).size = cells.size:= by
   rw [← Array.length_toList,hz]
   simp [hv]
   omega
  obtain ⟨out,h1,hout⟩:= fill_rows vs (k + 1) (v.cells.toList.zipIdx.foldl (fun cs (x : Value × Nat) => cs.setIfInBounds (k * size + x.2) x.1) cells) (fun u hu => h u (by simp [hu])) (by rw [h2,hsz]; omega)
  refine ⟨out,?_,?_⟩
  ·simp only [List.length_cons,List.range'_succ,List.zip_cons_cons,Instr.fill]
   rw [if_neg (by simp [hv]; omega),← Array.foldl_toList,Array.toList_zipIdx]
   exact h1
  ·rw [hout,hz,h2,h3]
   simp only [List.length_cons,hmul]
   have hfl : flat (v :: vs) = v.cells.toList ++ flat vs:= by simp [flat]
   rw [hfl]
   have e1 : (cells.toList.take (k * size) ++ v.cells.toList).length = k * size + size:= by simp [hv]; omega
   rw [← e1,List.take_left',List.drop_append]
   ·simp [e1]
    try rw [List.drop_of_length_le (by simp [hv])]
    try simp
    try (congr 1; omega)
   all_goals rfl
theorem zip_parts {α β : Type} {l : List (α × β)} {ks : List α} (h : l.map (·.1) = ks) : l = ks.zip (l.map (·.2)):= by
 subst h
 induction l with
 | nil => rfl
 | cons x l ih => simp [← ih]
theorem wp_bslice (hI : Inv R N env a E) {o : Oper} {t e : TypeId} {i : TypeInfo} {z : Value} {n d : Nat} {parts : Array (Nat × Operand)} (ho : o.op = .buildSlice t n parts) (hd : o.dst = some d) (hdN : d < N)
  (ht : P.underlying t = some (.slice e)) (hi : P.info? e = some i) (hz : i.zero = some z) (hzs : z.cells.size = i.size) (hidx : parts.toList.map (·.1) = List.range n) (hlim : n * i.size ≤ 16777216) (hsz : 0 < i.size)
  {env' : Env} (h : stepBslice i.size d ((parts.toList.map (·.2)).map env.ev) env = some env')
  {K : Act → World → Prop} {Q : Exit → Act → World → Prop} (hK : ∀ v E',Inv R N env' (a.put (some d) v) E' → K (a.put (some d) v) E'.w) : o.wp P a E.w K Q:= by
 unfold stepBslice at h
 split at h
 case h_2 => cases h
 rename_i rows hrows
 injection h with h
 subst h
 obtain ⟨hr,he,ho1⟩:= rowsOf_rep hI hrows (hI.evs (parts.toList.map (·.2)))
 have hvl:= hr.length
 have hfl:= flat_length he
 generalize hvs : (parts.toList.map (·.2)).map a.eval = vs at hr he ho1 hvl hfl
 have hn : vs.length = n:= by
  have:= congrArg List.length hidx
  rw [← hvs]
  simpa using this
 obtain ⟨out,hfill,hout⟩:= fill_rows (size:= i.size) vs 0 ((Array.range (n * i.size)).map (z.cells[· % z.cells.size]!)) he (by simp [hn])
 have hparts : (parts.map fun (i,x) => (i,a.eval x)).toList = (List.range' 0 vs.length).zip vs:= by
  have h1:= zip_parts (l:= (parts.toList.map fun p => (p.1,a.eval p.2))) (ks:= List.range n) (by rw [← hidx]; simp)
  simp only [Array.toList_map]
  rw [h1,hn,List.range_eq_range',← hvs]
  congr 1
  simp
 have hout' : out = (flat vs).toArray:= by
  apply Array.ext'
  rw [hout]
  simp only [Nat.zero_mul,List.take_zero,List.nil_append,Nat.zero_add,hn]
  rw [List.drop_of_length_le (by simp)]
  simp
 obtain ⟨E',hw',hI',_,hrep⟩:= hI.newOwn [d] (ty:= e) (rows:= rows) (vs:= vs) (e:= i.size) (cap:= rows.length) (rest:= []) hr he ho1 (Nat.le_refl _) (by have : rows.length ≤ rows.length * i.size:= Nat.le_mul_of_pos_right _ hsz; rw [← hvl,hn] at this ⊢; simp only [maxLen]; omega) (by simp [hfl,hvl])
 unfold Oper.wp
 have hex : (execOp a.eval o).run P E.w = .ok (.value (.slice (some ⟨E.w.heap.size,0,none⟩) n n)) (E.w.alloc (.cells (flat vs).toArray e)):= by
  have hzero : (zeroValue e).run P E.w = .ok z E.w:= by simp [zeroValue,typeInfo,program,Sem.run,hi,hz,Bind.bind,Sem.bind,Pure.pure]
  have hfill' : Instr.fill (fun i_1 => some (i_1 * i.size,i.size)) ((Array.range (n * i.size)).map fun x => z.cells[x % z.cells.size]!) (parts.map fun (i,x) => (i,a.eval x)).toList = some out:= by rw [hparts]; exact hfill
  simp only [execOp,ho,Instr.buildSlice,Sem.run_bind,run_underlying_eq ht,Result.andThen_ok,run_sizeOf hi]
  rw [if_neg (by omega)]
  by_cases h0 : n * i.size = 0
  ·have hn0 : n = 0:= by rcases Nat.mul_eq_zero.1 h0 with h | h <;> omega
   have hvs0 : vs = []:= List.eq_nil_of_length_eq_zero (by omega)
   subst hn0 hvs0
   have hp0 : parts.toList = []:= by
    have:= congrArg List.length hidx
    simpa using this
   have hp1 : parts = #[]:= by rw [← Array.toArray_toList (xs:= parts),hp0]
   subst hp1
   simp [Sem.run_bind,Sem.run,Instr.fill,newRow,newObj,flat,World.alloc_eq,Array.range_zero']
  ·rw [if_neg h0]
   simp only [Sem.run_bind,hzero,Result.andThen_ok,Sem.run_pure,hfill']
   simp [newRow,newObj,Sem.run_bind,Sem.run,hout',World.alloc_eq]
 rw [hex,Oper.upon_value,hd]
 have:= hK _ E' (hI'.put hdN hrep)
 rw [hw'] at this
 simp only [List.append_nil] at this
 rw [← hvl,hn] at this
 exact this
def stepAlloc (d : Nat) (z : List AV) (env : Env) : Option Env :=
 if oneL z = true then some (((env.fresh d).putc d z).put d (.lp d 0)) else none
def stepBox (d : Nat) (x : Operand) (env : Env) : Option Env :=
 if ((env.fresh d).ev x).row = true then if oneL (cellsOf ((env.fresh d).ev x)) = true then some (((env.fresh d).putc d (cellsOf ((env.fresh d).ev x))).put d (.lp d 0)) else none else none
theorem rep_new (E : RE) (d : Nat) (w : World) (b : Nat) : Rep { E with w:= w,loc:= upd E.loc d (some b) } (.lp d 0) (.pointer (some ⟨b,0,none⟩)):= by
 simp only [Rep]
 exact ⟨b,by simp [upd],rfl⟩
theorem wp_alloc (hI : Inv R N env a E) {o : Oper} {t : TypeId} {z : Value} {d : Nat} (ho : o.op = .alloc t) (hd : o.dst = some d) (hdN : d < N) (hz : (P.info? t).bind (·.zero) = some z)
  {env' : Env} (h : stepAlloc d (z.cells.toList.map ofVal1) env = some env')
  {K : Act → World → Prop} {Q : Exit → Act → World → Prop} (hK : ∀ v E',Inv R N env' (a.put (some d) v) E' → K (a.put (some d) v) E'.w) : o.wp P a E.w K Q:= by
 unfold stepAlloc at h
 split at h
 case isFalse => cases h
 rename_i hone
 injection h with h
 subst h
 obtain ⟨E0,hw0,hI0,hl0,hc0⟩:= hI.fresh d
 have hr : RepL E0 (z.cells.toList.map ofVal1) z.cells.toList:= repL_ofVal1 E0 _
 obtain ⟨hI1,_⟩:= hI0.newLoc d hdN hl0 (ty:= t) hr (repL_one hr (oneL_spec hone))
 obtain ⟨inf,hinf,hz'⟩:= Option.bind_eq_some_iff.1 hz
 unfold Oper.wp
 have hex : (execOp a.eval o).run P E.w = .ok (.value (.pointer (some ⟨E.w.heap.size,0,none⟩))) (E.w.alloc (.cells z.cells t)):= by
  have hzero : (zeroValue t).run P E.w = .ok z E.w:= by simp [zeroValue,typeInfo,program,Sem.run,hinf,hz',Bind.bind,Sem.bind,Pure.pure]
  simp [execOp,ho,Instr.alloc,Sem.run_bind,hzero,newVar,newRow,newObj,Sem.run,World.alloc_eq]
 rw [hex,Oper.upon_value,hd]
 have:= hK _ _ (hI1.put hdN (rep_new E0 d _ _))
 simp only [hw0] at this
 exact this
def stepMks (agg : Bool) (esz bytes d : Nat) (z : List AV) (l c : AV) (env : Env) : Option Env :=
 match intOfA l,intOfA c with
 | some n,some n' => if n = n' ∧ 0 ≤ n ∧ n ≤ 4294967296 ∧ bytes ≤ 32768 then if oneL z = true then some (((env.fresh d).putc d (List.replicate n.toNat z).flatten).put d (.ml d 0 n.toNat n.toNat agg esz)) else none else none
 | _,_ => none
theorem made_list (z : Array Value) : ∀ n : Nat,(madeCells z (n * z.size)).toList = (List.replicate n z.toList).flatten
 | 0 => by simp [madeCells]
 | n + 1 => by
  have ih:= made_list z n
  rw [List.replicate_succ',List.flatten_append,← ih]
  simp only [madeCells,Array.toList_map,Array.toList_range,Nat.succ_mul,List.range_add,List.map_append,List.map_map,List.flatten_cons,List.flatten_nil,List.append_nil]
  congr 1
  apply List.ext_getElem
  ·simp
  ·intro i h1 h2
   have hi : i < z.size:= by simpa using h2
   simp [Nat.mod_eq_of_lt hi,hi]
theorem oneL_flatten {z : List AV} (h : oneL z = true) (n : Nat) : oneL (List.replicate n z).flatten = true:= by
 simp only [oneL,List.all_eq_true] at h ⊢
 intro x hx
 obtain ⟨l,hl,hxl⟩:= List.mem_flatten.1 hx
 rw [List.eq_of_mem_replicate hl] at hxl
 exact h x hxl
theorem repL_flatten {E : RE} {z : List AV} {vs : List Value} (h : RepL E z vs) : ∀ n : Nat,RepL E (List.replicate n z).flatten (List.replicate n vs).flatten
 | 0 => by simp [RepL]
 | n + 1 => by
  simp only [List.replicate_succ,List.flatten_cons]
  exact h.append (repL_flatten h n)
theorem wp_mks (hI : Inv R N env a E) {o : Oper} {t e : TypeId} {i : TypeInfo} {z : Value} {l c : Operand} {b : Bool} {d : Nat} (ho : o.op = .makeSlice t l c) (hd : o.dst = some d) (hdN : d < N)
  (ht : P.underlying t = some (.slice e)) (hi : P.info? e = some i) (hz : i.zero = some z) (hzs : z.cells.size = i.size)
  {env' : Env} (h : stepMks b i.size i.bytes d (z.cells.toList.map ofVal1) (env.ev l) (env.ev c) env = some env')
  {K : Act → World → Prop} {Q : Exit → Act → World → Prop} (hK : ∀ v E',Inv R N env' (a.put (some d) v) E' → K (a.put (some d) v) E'.w) : o.wp P a E.w K Q:= by
 unfold stepMks at h
 have hl:= hI.ev l
 have hc:= hI.ev c
 split at h
 case h_2 => cases h
 rename_i n n' hn hn'
 have evi : ∀ {x : AV} {m : Int} {v : Value},intOfA x = some m → Rep E x v → ∃ k,v = .int k m:= by
  intro x m v hx hr
  unfold intOfA at hx
  split at hx
  ·injection hx with hx
   subst hx
   simp only [Rep] at hr
   exact ⟨_,hr⟩
  ·cases hx
 obtain ⟨kl,el⟩:= evi hn hl
 obtain ⟨kc,ec⟩:= evi hn' hc
 split at h
 case isFalse => cases h
 rename_i hb
 obtain ⟨rfl,h0,hm,hby⟩:= hb
 split at h
 case isFalse => cases h
 rename_i hone
 injection h with h
 subst h
 obtain ⟨E0,hw0,hI0,hl0,hc0⟩:= hI.fresh d
 have hr0 : RepL E0 (z.cells.toList.map ofVal1) z.cells.toList:= repL_ofVal1 E0 _
 have hr:= repL_flatten hr0 n.toNat
 have hcells : (madeCells z.cells (n.toNat * i.size)).toList = (List.replicate n.toNat z.cells.toList).flatten:= by rw [← hzs]; exact made_list z.cells n.toNat
 have hmul : (i.bytes : Int) * n ≤ 140737488355328:= by
  have h1 : (i.bytes : Int) * n ≤ (i.bytes : Int) * 4294967296:= Int.mul_le_mul_of_nonneg_left hm (by omega)
  omega
 have hrun:= run_make (P:= P) E.w t e i z ht hi hz kl kc n n h0 (Int.le_refl _) (by omega) (by omega)
 obtain ⟨hI1,_⟩:= hI0.newLoc d hdN hl0 (ty:= e) (vals:= madeCells z.cells (n.toNat * i.size)) (cs:= (List.replicate n.toNat (z.cells.toList.map ofVal1)).flatten) (by rw [hcells]; exact hr) (by rw [hcells]; exact repL_one hr (oneL_spec (oneL_flatten hone _)))
 unfold Oper.wp
 have hex : (execOp a.eval o).run P E.w = .ok (.value (.slice (some ⟨E.w.heap.size,0,none⟩) n.toNat n.toNat)) (E.w.alloc (.cells (madeCells z.cells (n.toNat * i.size)) e)):= by
  simp [execOp,ho,el,ec,Sem.run_bind,hrun,Sem.run]
 rw [hex,Oper.upon_value,hd]
 have:= hK (.slice (some ⟨E0.w.heap.size,0,none⟩) n.toNat n.toNat) _ (hI1.put hdN (x:= .ml d 0 n.toNat n.toNat b i.size) (by
  simp only [Rep]
  exact ⟨E0.w.heap.size,by simp [upd],rfl⟩))
 simp only [hw0] at this
 exact this
def stepMko (esz bytes d : Nat) (c : AV) (env : Env) : Option Env :=
 match intOfA c with
 | some n' => if 0 ≤ n' ∧ n' ≤ 4294967296 ∧ bytes ≤ 32768 then some (env.put d (.sl (.own [d]) esz [])) else none
 | none => none
theorem wp_mko (hI : Inv R N env a E) {o : Oper} {t e : TypeId} {i : TypeInfo} {z : Value} {k0 : IntKind} {c : Operand} {d : Nat} (ho : o.op = .makeSlice t (.const (.int k0 0)) c) (hd : o.dst = some d) (hdN : d < N)
  (ht : P.underlying t = some (.slice e)) (hi : P.info? e = some i) (hz : i.zero = some z) (hzs : z.cells.size = i.size)
  {env' : Env} (h : stepMko i.size i.bytes d (env.ev c) env = some env')
  {K : Act → World → Prop} {Q : Exit → Act → World → Prop} (hK : ∀ v E',Inv R N env' (a.put (some d) v) E' → K (a.put (some d) v) E'.w) : o.wp P a E.w K Q:= by
 unfold stepMko at h
 have hc:= hI.ev c
 split at h
 case h_2 => cases h
 rename_i n hn
 unfold intOfA at hn
 split at hn
 case h_2 => cases hn
 rename_i kc n' hcv
 injection hn with hn
 subst hn
 rw [hcv] at hc
 simp only [Rep] at hc
 split at h
 case isFalse => cases h
 rename_i hb
 obtain ⟨h0,hm,hby⟩:= hb
 injection h with h
 subst h
 have hmul : (i.bytes : Int) * n' ≤ 140737488355328:= by
  have h1 : (i.bytes : Int) * n' ≤ (i.bytes : Int) * 4294967296:= Int.mul_le_mul_of_nonneg_left hm (by omega)
  omega
 have hrun:= run_make (P:= P) E.w t e i z ht hi hz k0 kc 0 n' (Int.le_refl _) h0 (by omega) (by omega)
 obtain ⟨E',hw',hI',_,hrep⟩:= hI.newOwn [d] (ty:= e) (rows:= []) (vs:= []) (e:= i.size) (cap:= n'.toNat) (rest:= (madeCells z.cells (n'.toNat * i.size)).toList) (by simp [RepL]) (by simp) (by simp [flat]) (Nat.zero_le _) (by simp only [maxLen]; omega) (by simp [flat,size_madeCells])
 unfold Oper.wp
 have hex : (execOp a.eval o).run P E.w = .ok (.value (.slice (some ⟨E.w.heap.size,0,none⟩) 0 n'.toNat)) (E.w.alloc (.cells (madeCells z.cells (n'.toNat * i.size)) e)):= by
  have hz0 : a.eval (.const (.int k0 0)) = .int k0 0:= rfl
  simp [execOp,ho,hz0,hc,Sem.run_bind,hrun,Sem.run]
 rw [hex,Oper.upon_value,hd]
 have:= hK _ E' (hI'.put hdN hrep)
 rw [hw'] at this
 simpa [flat] using this
theorem wp_box (hI : Inv R N env a E) {o : Oper} {t : TypeId} {x : Operand} {d : Nat} (ho : o.op = .box t x) (hd : o.dst = some d) (hdN : d < N)
  {env' : Env} (h : stepBox d x env = some env')
  {K : Act → World → Prop} {Q : Exit → Act → World → Prop} (hK : ∀ v E',Inv R N env' (a.put (some d) v) E' → K (a.put (some d) v) E'.w) : o.wp P a E.w K Q:= by
 unfold stepBox at h
 split at h
 case isFalse => cases h
 rename_i hrow
 split at h
 case isFalse => cases h
 rename_i hone
 injection h with h
 subst h
 obtain ⟨E0,hw0,hI0,hl0,hc0⟩:= hI.fresh d
 have hx:= hI0.ev x
 have hr:= rep_cells hx (row_or hrow)
 obtain ⟨hI1,_⟩:= hI0.newLoc d hdN hl0 (ty:= t) hr (repL_one hr (oneL_spec hone))
 unfold Oper.wp
 have hex : (execOp a.eval o).run P E.w = .ok (.value (.pointer (some ⟨E.w.heap.size,0,none⟩))) (E.w.alloc (.cells (a.eval x).cells t)):= by
  simp [execOp,ho,Instr.box,Sem.run_bind,newVar,newRow,newObj,Sem.run,World.alloc_eq]
 rw [hex,Oper.upon_value,hd]
 have:= hK _ _ (hI1.put hdN (rep_new E0 d _ _))
 simp only [hw0] at this
 exact this
end
end Go.Proofs.YtnndbbmidoidpaaGreatDoor.VL
end

