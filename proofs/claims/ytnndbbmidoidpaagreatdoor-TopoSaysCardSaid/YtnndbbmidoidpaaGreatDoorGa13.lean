import Derived.Test.YtnndbbmidoidpaaGreatDoorGa12
set_option linter.unusedVariables false
set_option linter.unusedSimpArgs false
section
namespace Go.Proofs.YtnndbbmidoidpaaGreatDoor.VL
open Go.RowKit
mutual
/-- What bore the one mark bears the other one. -/
def relab (τ τ' : List Nat) : AV → AV
 | .sl t e rows => .sl (match t with
  | .own s => if s = τ then .own τ' else if s = τ' then .none else .own s
  | .fr s => if s = τ then .fr τ' else if s = τ' then .gone else .fr s
  | t => t) e rows
 | .mf s al => if s = τ then .mf τ' al else .mf s (al && decide (s ≠ τ'))
 | .agg cs => .agg (relabL τ τ' cs)
 | .tup cs => .tup (relabL τ τ' cs)
 | .clo f a b => .clo f (relabL τ τ' a) (relabL τ τ' b)
 | .ifc t x => .ifc t (relab τ τ' x)
 | x => x
def relabL (τ τ' : List Nat) : List AV → List AV
 | [] => []
 | x :: xs => relab τ τ' x :: relabL τ τ' xs
end
def RE.relab (E : RE) (τ τ' : List Nat) : RE:= { E with own:= fun g t => (t = τ' ∧ E.own g τ) ∨ (t ≠ τ ∧ t ≠ τ' ∧ E.own g t) }
def Env.relab (E : Env) (τ τ' : List Nat) : Env:= ⟨fun k => VL.relab τ τ' (E.s k),fun c => (E.c c).map (relabL τ τ')⟩
theorem RE.relab_closed (E : RE) (τ τ' : List Nat) : (E.relab τ τ').closed = E.closed:= rfl
theorem RE.relab_bor (E : RE) (τ τ' : List Nat) : (E.relab τ τ').bor = E.bor:= rfl
mutual
theorem rep_relab (τ τ' : List Nat) : ∀ {x : AV} {E : RE} {v : Value},Rep E x v → Rep (E.relab τ τ') (relab τ τ' x) v
 | .lit u,E,v,h => by simpa only [relab,Rep] using h
 | .agg cs,E,v,h => by
  simp only [relab,Rep] at h ⊢
  obtain ⟨vs,rfl,h⟩:= h
  exact ⟨vs,rfl,repL_relab τ τ' h⟩
 | .tup cs,E,v,h => by
  simp only [relab,Rep] at h ⊢
  obtain ⟨vs,rfl,h⟩:= h
  exact ⟨vs,rfl,repL_relab τ τ' h⟩
 | .sl .none e rows,E,v,h => by
  simp only [relab]
  simp only [Rep,RE.relab_closed] at h ⊢
  exact h
 | .sl .nil e rows,E,v,h => by
  simp only [relab]
  simp only [Rep,RE.relab_closed] at h ⊢
  exact h
 | .sl .bor e rows,E,v,h => by
  simp only [relab]
  simp only [Rep,RE.relab_closed] at h ⊢
  exact h
 | .sl .gone e rows,E,v,h => by
  simp only [relab]
  simp only [Rep,RE.relab_closed] at h ⊢
  exact h
 | .sl (.fr t) e rows,E,v,h => by
  simp only [relab]
  by_cases h1 : t = τ
  ·rw [if_pos h1]
   simp only [Rep,RE.relab_closed] at h ⊢
   obtain ⟨A,cap,vs,rfl,hcap,hr,he,h1',ht⟩:= h
   refine ⟨A,cap,vs,rfl,hcap,hr,he,h1',?_⟩
   rcases ht with ht | ⟨g,cur,ty,ha,hat,hh,hm,hc,ho,hs⟩
   ·exact .inl ht
   ·exact .inr ⟨g,cur,ty,ha,hat,hh,hm,hc,.inl ⟨rfl,h1 ▸ ho⟩,hs⟩
  ·rw [if_neg h1]
   by_cases h2 : t = τ'
   ·rw [if_pos h2]
    simp only [Rep,RE.relab_closed] at h ⊢
    obtain ⟨A,cap,vs,rfl,hcap,hr,he,h1',ht⟩:= h
    exact ⟨A,cap,vs,rfl,hcap,hr,he,h1',trivial⟩
   ·rw [if_neg h2]
    simp only [Rep,RE.relab_closed] at h ⊢
    obtain ⟨A,cap,vs,rfl,hcap,hr,he,h1',ht⟩:= h
    refine ⟨A,cap,vs,rfl,hcap,hr,he,h1',?_⟩
    rcases ht with ht | ⟨g,cur,ty,ha,hat,hh,hm,hc,ho,hs⟩
    ·exact .inl ht
    ·exact .inr ⟨g,cur,ty,ha,hat,hh,hm,hc,.inr ⟨h1,h2,ho⟩,hs⟩
 | .sl (.own t) e rows,E,v,h => by
  simp only [relab]
  by_cases h1 : t = τ
  ·rw [if_pos h1]
   simp only [Rep,RE.relab_closed] at h ⊢
   obtain ⟨A,cap,vs,rfl,hcap,hr,he,h1',ht⟩:= h
   refine ⟨A,cap,vs,rfl,hcap,hr,he,h1',?_⟩
   rcases ht with ht | ⟨g,cur,ty,ha,hat,hh,hm,hc,ho,hs⟩
   ·exact .inl ht
   ·exact .inr ⟨g,cur,ty,ha,hat,hh,hm,hc,.inl ⟨rfl,h1 ▸ ho⟩,hs⟩
  ·rw [if_neg h1]
   by_cases h2 : t = τ'
   ·rw [if_pos h2]
    simp only [Rep,RE.relab_closed] at h ⊢
    obtain ⟨A,cap,vs,rfl,hcap,hr,he,h1',ht⟩:= h
    refine ⟨A,cap,vs,rfl,hcap,hr,he,h1',fun hne => ?_⟩
    rcases ht with ⟨_,h0⟩ | ⟨g,cur,ty,ha,hat,_⟩
    ·exact absurd (List.eq_nil_of_length_eq_zero (by omega)) hne
    ·exact ⟨g,0,ha,hat⟩
   ·rw [if_neg h2]
    simp only [Rep,RE.relab_closed] at h ⊢
    obtain ⟨A,cap,vs,rfl,hcap,hr,he,h1',ht⟩:= h
    refine ⟨A,cap,vs,rfl,hcap,hr,he,h1',?_⟩
    rcases ht with ht | ⟨g,cur,ty,ha,hat,hh,hm,hc,ho,hs⟩
    ·exact .inl ht
    ·exact .inr ⟨g,cur,ty,ha,hat,hh,hm,hc,.inr ⟨h1,h2,ho⟩,hs⟩
 | .mf t al,E,v,h => by
  simp only [relab]
  by_cases h1 : t = τ
  ·rw [if_pos h1]
   simp only [Rep] at h ⊢
   obtain ⟨b,rfl,h⟩:= h
   refine ⟨b,rfl,fun e => ?_⟩
   obtain ⟨hh,ho,hs⟩:= h e
   exact ⟨hh,.inl ⟨rfl,h1 ▸ ho⟩,hs⟩
  ·rw [if_neg h1]
   simp only [Rep] at h ⊢
   obtain ⟨b,rfl,h⟩:= h
   refine ⟨b,rfl,fun e => ?_⟩
   simp only [Bool.and_eq_true,decide_eq_true_eq] at e
   obtain ⟨hh,ho,hs⟩:= h e.1
   exact ⟨hh,.inr ⟨h1,e.2,ho⟩,hs⟩
 | .mu t k vs,E,v,h => by
  simp only [relab]
  simp only [Rep,RE.relab_closed] at h ⊢
  exact h
 | .rp cs,E,v,h => by
  simp only [relab]
  simp only [Rep,RE.relab_closed] at h ⊢
  exact h
 | .bp cs,E,v,h => by
  simp only [relab]
  simp only [Rep,RE.relab_bor] at h ⊢
  exact h
 | .lp c o,E,v,h => by simp only [relab,Rep] at h ⊢; exact h
 | .ml c o n k g e,E,v,h => by simp only [relab,Rep] at h ⊢; exact h
 | .clo f a b,E,v,h => by
  simp only [relab,Rep] at h ⊢
  obtain ⟨fs,cs,rfl,h1,h2⟩:= h
  exact ⟨fs,cs,rfl,repL_relab τ τ' h1,repL_relab τ τ' h2⟩
 | .ifc t x,E,v,h => by
  simp only [relab,Rep] at h ⊢
  obtain ⟨u,rfl,h⟩:= h
  exact ⟨u,rfl,rep_relab τ τ' h⟩
 | .mp keys vals,E,v,h => by
  simp only [relab]
  simp only [Rep,RE.relab_closed] at h ⊢
  exact h
 | .gl i,E,v,h => by simp only [relab,Rep] at h ⊢; exact h
 | .gp g,E,v,h => by simpa only [relab,Rep] using h
 | .dead,E,v,h => by simp only [relab,Rep]
theorem repL_relab (τ τ' : List Nat) : ∀ {xs : List AV} {E : RE} {vs : List Value},RepL E xs vs → RepL (E.relab τ τ') (relabL τ τ' xs) vs
 | [],E,vs,h => by simpa only [relabL,RepL] using h
 | x :: xs,E,vs,h => by
  simp only [relabL,RepL] at h ⊢
  obtain ⟨v,ws,rfl,h1,h2⟩:= h
  exact ⟨v,ws,rfl,rep_relab τ τ' h1,repL_relab τ τ' h2⟩
end
section
variable {P : Program} {R : RE} {N : Nat} {env : Env} {a : Act} {E : RE}
theorem Inv.relab (h : Inv R N env a E) (τ τ' : List Nat) : Inv R N (env.relab τ τ') a (E.relab τ τ'):= by
 have own_of : ∀ {g t},(E.relab τ τ').own g t → ∃ s,E.own g s:= fun {g t} ho => ho.elim (fun h => ⟨_,h.2⟩) fun h => ⟨_,h.2.2⟩
 refine { h with ownlt:= fun g t ho => (own_of ho).elim fun s hs => h.ownlt g s hs,own1:= fun g t t' h1 h2 => ?_,locc:= fun c b hb => ?_,locd:= fun c cs hc => ?_,mlocc:= fun c b hb => let ⟨h1,h2,h3,h4,h5⟩:= h.mlocc c b hb; ⟨h1,h2,h3,fun t ht => (own_of ht).elim h4,h5⟩,slots:= fun k => rep_relab τ τ' (h.slots k) }
 ·rcases h1 with ⟨e1,o1⟩ | ⟨a1,b1,o1⟩ <;> rcases h2 with ⟨e2,o2⟩ | ⟨a2,b2,o2⟩
  ·rw [e1,e2]
  ·exact absurd (h.own1 g _ _ o2 o1) a2
  ·exact absurd (h.own1 g _ _ o1 o2) a1
  ·exact h.own1 g _ _ o1 o2
 ·obtain ⟨h1,h2,h3,cs,vals,ty,hcs,hh,hr,ho⟩:= h.locc c b hb
  exact ⟨h1,h2,fun t ht => (own_of ht).elim h3,relabL τ τ' cs,vals,ty,by simp [Env.relab,hcs],hh,repL_relab τ τ' hr,ho⟩
 ·obtain ⟨cs',hcs',_⟩:= Option.map_eq_some_iff.1 hc
  exact h.locd c cs' hcs'
end
theorem VS.relab {E : Env} (τ τ' : List Nat) : VS E fun E' => E' = E.relab τ τ':= fun R N a F hR hI => ⟨E.relab τ τ',F.relab τ τ',rfl,rfl,hI.relab τ τ'⟩
theorem VS.adoptM {E : Env} {p : Spot} {τ name : List Nat} (hp : E.at p = some (.mf τ true)) : VS E fun E' => E' = ((E.killn (· == name)).strip τ).set p (.mu name [] []):= by
 intro R N a F hR hI
 obtain ⟨v,hv,hset⟩:= hI.atSpot hp
 simp only [Rep] at hv
 obtain ⟨b,rfl,hb⟩:= hv
 obtain ⟨⟨ck,hh⟩,hown,hS⟩:= hb trivial
 have hI1:= (hI.unname (· == name)).unownT τ
 obtain ⟨hlt1,hlt2⟩:= hI.ownlt b τ hown
 obtain ⟨hI2,hx⟩:= hI1.takeName (τ:= name) (g:= b) (w':= F.w) (by simp [RE.unown,RE.unname]) hlt1 hlt2 hS (fun t ht => ht.2 (hI.own1 b t τ ht.1 hown)) (fun c hc => (hI.locc c b hc).2.2.1 τ hown)
  (fun t ht => by
   simp only [RE.unown,RE.unname] at ht
   split at ht
   ·cases ht
   ·exact (hI.mlocc t b ht).2.2.2.1 τ hown) (Nat.le_refl _) rfl rfl rfl (fun _ _ _ => rfl)
 refine ⟨_,_,?_,rfl,hset hI2 rfl (fun c i _ => rfl) ?_ ?_⟩
 ·rfl
 ·simp only [Rep]
  exact ⟨b,[],ck,[],by simp,rfl,hh,rfl,rfl,by simp [RepL]⟩
 ·cases p with
  | slot k => exact ⟨_,rfl⟩
  | cell c i =>
   simp only [Env.at] at hp ⊢
   obtain ⟨cs,hcs,hx⟩:= Option.bind_eq_some_iff.1 hp
   have hl : ∀ (q : List Nat → Bool) (l : List AV),(killnL q l).length = l.length:= by
    intro q l
    induction l with
    | nil => rfl
    | cons x l ih => simp [killnL,ih]
   have hl2 : ∀ (l : List AV),(stripL τ l).length = l.length:= by
    intro l
    induction l with
    | nil => rfl
    | cons x l ih => simp [stripL,ih]
   have hi : i < cs.length:= (List.getElem?_eq_some_iff.1 hx).1
   refine ⟨(stripL τ (killnL (· == name) cs))[i]'(by rw [hl2,hl]; exact hi),?_⟩
   simp only [Env.strip,Env.killn,hcs,Option.map_some,Option.bind_some]
   exact List.getElem?_eq_getElem _
theorem VS.freeze {E : Env} {p : Spot} {τ : List Nat} {e : Nat} {rows : List AV} (hp : E.at p = some (.sl (.fr τ) e rows)) : VS E fun E' => E' = (E.strip τ).set p (.sl .none e rows):= by
 intro R N a F hR hI
 obtain ⟨v,hv,hset⟩:= hI.atSpot hp
 simp only [Rep] at hv
 obtain ⟨A,cap,vs,rfl,hcap,hr,he,h1,ht⟩:= hv
 have hU:= hI.unownT τ
 have hz : ∃ z,(E.strip τ).at p = some z:= ⟨_,at_strip τ hp⟩
 rcases ht with ⟨h0,_⟩ | ⟨b,cur,ty,rfl,hat,hh,hm,hcs,hown,hS,hone⟩
 ·refine ⟨_,F.unown τ,rfl,rfl,hset hU rfl (fun c i _ => rfl) ?_ hz⟩
  simp only [Rep]
  exact ⟨A,cap,vs,rfl,hcap,hr,he,h1,fun hne => absurd h0 hne⟩
 ·have hnl : ∀ c,F.loc c ≠ some b:= fun c hc' => (hI.locc c b hc').2.2.1 τ hown
  have hno : ∀ t,¬ (F.unown τ).own b t:= fun t ht => ht.2 (hI.own1 b t τ ht.1 hown)
  have hnm : ∀ t,F.mloc t ≠ some b:= fun t ht => (hI.mlocc t b ht).2.2.2.1 τ hown
  obtain ⟨F',hF'⟩ : ∃ F' : RE,F' = { F.unown τ with S:= fun b' o => F.S b' o ∨ b' = b }:= ⟨_,rfl⟩
  have hx : Ext (F.unown τ) F':= by
   rw [hF']
   refine ⟨fun _ _ h => .inl h,fun _ h => h,fun _ _ _ _ h => h,fun _ _ _ _ h => h,fun c b' hc' => hc',fun k t hk => ⟨hk,rfl,fun o ho => ?_⟩,rfl,fun t b' hb => ⟨hb,rfl⟩⟩
   rcases ho with ho | ho
   ·exact ho
   ·exact absurd (ho ▸ hk) (hno t)
  have hxc : Ext F.closed F'.closed:= hx.closed
  have hI1 : Inv R N (E.strip τ) a F':= by
   have hw : F'.w = F.w:= by rw [hF']; rfl
   have hlo:= (hI.ownlt b τ hown)
   refine ⟨hU.defers,hU.Nlim,by rw [hF']; exact hU.lentl,hU.size,by rw [hF']; exact hU.B,by rw [hF']; exact hU.Bok,by rw [hw]; exact hI.below,hU.Mlt,fun k hk o hs => ?_,by rw [hF']; exact hU.par,by rw [hF']; exact hU.G,fun b' o hb' => ?_,fun b' o hs => ?_,by rw [hF']; exact hU.ownlt,by rw [hF']; exact hU.own1,fun c b' hb' => ?_,by rw [hF']; exact hU.locd,by rw [hF']; exact hU.loc1,fun t b' hb' => ?_,by rw [hF']; exact hU.mloc1,fun k => (hU.slots k).mono hx⟩
   ·rw [hF'] at hs
    rcases hs with hs | hs
    ·exact hI.MS k hk o hs
    ·subst hs
     have:= hI.Mlt k hk
     omega
   ·rw [hF',← hI.S0 b' o hb']
    constructor
    ·rintro (hs | hs)
     ·exact hs
     ·omega
    ·exact .inl
   ·rw [hF'] at hs
    rw [hw]
    rcases hs with hs | hs
    ·exact hI.Slt b' o hs
    ·rw [hs]; exact hlo.2
   ·have hb2 : (F.unown τ).loc c = some b':= by rw [hF'] at hb'; exact hb'
    obtain ⟨k1,k2,k3,cs,vals,ty',hcs',hh',hr',ho'⟩:= hU.locc c b' hb2
    refine ⟨k1,fun o hs => ?_,by rw [hF']; exact k3,cs,vals,ty',hcs',by rw [hw]; exact hh',hr'.mono hx,ho'⟩
    rw [hF'] at hs
    rcases hs with hs | hs
    ·exact k2 o hs
    ·exact hnl c (hs ▸ hb2)
   ·have hb2 : (F.unown τ).mloc t = some b':= by rw [hF'] at hb'; exact hb'
    obtain ⟨k1,k2,k3,k4,k5⟩:= hU.mlocc t b' hb2
    refine ⟨k1,by rw [hw]; exact k2,fun o hs => ?_,by rw [hF']; exact k4,by rw [hF']; exact k5⟩
    rw [hF'] at hs
    rcases hs with hs | hs
    ·exact k3 o hs
    ·exact hnm t (hs ▸ hb2)
  refine ⟨_,F',by rw [hF']; rfl,rfl,hset hI1 (by rw [hF']; rfl) (fun c i _ => by rw [hF']; rfl) ?_ hz⟩
  simp only [Rep]
  refine ⟨_,cap,vs,rfl,hcap,hr.mono hxc,he,h1,fun _ => ⟨b,0,rfl,fun j u hj => ⟨?_,?_⟩⟩⟩
  ·rw [hF']; exact .inr rfl
  ·rw [hF']; exact (hat j u hj).2
theorem at_forget {E : Env} {p : Spot} {x : AV} (n : Nat) (hpn : ∀ i,p ≠ .cell n i) (h : E.at p = some x) : (E.forget n).at p = some (kill n x):= by
 cases p with
 | slot k =>
  simp only [Env.at,Option.some.injEq] at h ⊢
  subst h
  rfl
 | cell c i =>
  have hcn : c ≠ n:= fun e => hpn i (by rw [e])
  simp only [Env.at] at h ⊢
  obtain ⟨cs,hcs,hx⟩:= Option.bind_eq_some_iff.1 h
  have e : ∀ l : List AV,killL n l = l.map (kill n):= by
   intro l
   induction l with
   | nil => rfl
   | cons y ys ih => simp [killL,ih]
  simp only [Env.forget,if_neg hcn,hcs,Option.map_some,Option.bind_some,e,List.getElem?_map,hx]
theorem VS.freezeM {E : Env} {p : Spot} {n o len cap e : Nat} {g : Bool} {cs l : List AV} (hp : E.at p = some (.ml n o len cap g e)) (hn : n < 100000) (hc : E.c n = some cs) (hq : o + len * e ≤ cs.length ∧ len ≤ cap ∧ (g = true ∨ e = 1)) (hl : mapO closeV ((cs.drop o).take (len * e)) = some l) (hpn : ∀ i,p ≠ .cell n i) :
  VS E fun E' => E' = (E.forget n).set p (.sl .none e (chunk g e len l)):= by
 intro R N a F hR hI
 obtain ⟨v,hv,hset⟩:= hI.atSpot hp
 simp only [Rep] at hv
 obtain ⟨b,hb,rfl⟩:= hv
 obtain ⟨h1,h2,h3,cs',vals,ty,hcs',hh,hr,ho⟩:= hI.locc n b hb
 rw [hc] at hcs'
 injection hcs' with hcs'
 subst hcs'
 have hU:= hI.forgetLoc n
 have hb0 : R.w.heap.size ≤ b:= h1.resolve_right fun h => by have:= hR.lim n b h; omega
 have hbl : b < F.w.heap.size:= (Array.getElem?_eq_some_iff.1 hh).1
 have hnl : ∀ c,(F.unloc n).loc c ≠ some b:= fun c hc' => by
  simp only [RE.unloc] at hc'
  split at hc'
  ·cases hc'
  ·rename_i hcn; exact hcn (hI.loc1 c n b hc' hb)
 have hnm : ∀ t,F.mloc t ≠ some b:= fun t ht => (hI.mlocc t b ht).2.2.2.2 n hb
 obtain ⟨F',hF'⟩ : ∃ F' : RE,F' = { F.unloc n with S:= fun b' o => F.S b' o ∨ b' = b }:= ⟨_,rfl⟩
 have hx : Ext (F.unloc n) F':= by
  rw [hF']
  refine ⟨fun _ _ h => .inl h,fun _ h => h,fun _ _ _ _ h => h,fun _ _ _ _ h => h,fun c b' hc' => hc',fun k t hk => ⟨hk,rfl,fun o ho => ?_⟩,rfl,fun t b' hb => ⟨hb,rfl⟩⟩
  rcases ho with ho | ho
  ·exact ho
  ·exact absurd (ho ▸ hk) (h3 t)
 have hw : F'.w = F.w:= by rw [hF']; rfl
 have hI1 : Inv R N (E.forget n) a F':= by
  refine ⟨hU.defers,hU.Nlim,by rw [hF']; exact hU.lentl,hU.size,by rw [hF']; exact hU.B,by rw [hF']; exact hU.Bok,by rw [hw]; exact hI.below,hU.Mlt,fun k hk o hs => ?_,by rw [hF']; exact hU.par,by rw [hF']; exact hU.G,fun b' o hb' => ?_,fun b' o hs => ?_,by rw [hF']; exact hU.ownlt,by rw [hF']; exact hU.own1,fun c b' hb' => ?_,by rw [hF']; exact hU.locd,by rw [hF']; exact hU.loc1,fun t b' hb' => ?_,by rw [hF']; exact hU.mloc1,fun k => (hU.slots k).mono hx⟩
  ·rw [hF'] at hs
   rcases hs with hs | hs
   ·exact hI.MS k hk o hs
   ·subst hs
    have:= hI.Mlt k hk
    omega
  ·rw [hF',← hI.S0 b' o hb']
   constructor
   ·rintro (hs | hs)
    ·exact hs
    ·omega
   ·exact .inl
  ·rw [hF'] at hs
   rw [hw]
   rcases hs with hs | hs
   ·exact hI.Slt b' o hs
   ·rw [hs]; exact hbl
  ·have hb2 : (F.unloc n).loc c = some b':= by rw [hF'] at hb'; exact hb'
   obtain ⟨k1,k2,k3,cs,vals,ty',hcs',hh',hr',ho'⟩:= hU.locc c b' hb2
   refine ⟨k1,fun o hs => ?_,by rw [hF']; exact k3,cs,vals,ty',hcs',by rw [hw]; exact hh',hr'.mono hx,ho'⟩
   rw [hF'] at hs
   rcases hs with hs | hs
   ·exact k2 o hs
   ·exact hnl c (hs ▸ hb2)
  ·have hb2 : (F.unloc n).mloc t = some b':= by rw [hF'] at hb'; exact hb'
   obtain ⟨k1,k2,k3,k4,k5⟩:= hU.mlocc t b' hb2
   refine ⟨k1,by rw [hw]; exact k2,fun o hs => ?_,by rw [hF']; exact k4,by rw [hF']; exact k5⟩
   rw [hF'] at hs
   rcases hs with hs | hs
   ·exact k3 o hs
   ·exact hnm t (hs ▸ hb2)
 have hrl:= hr.length
 have hq2 : RepL F'.closed l ((vals.toList.drop o).take (len * e)):= RepL.mono hx.closed (mapO_rep (E:= F) (E':= F.closed) (fun x y v h1 h2 => close_rep hI h1 h2) hl ((hr.drop o).take _))
 obtain ⟨k1,k2,k3⟩:= chunk_rep hq.2.2 len hq2 (by rw [List.length_take,List.length_drop]; omega) fun u hu => ho u (List.mem_of_mem_drop (List.mem_of_mem_take hu))
 refine ⟨_,F',hw,rfl,hset hI1 hw (fun c i hpc => ?_) ?_ ⟨_,at_forget n hpn hp⟩⟩
 ·have hcn : c ≠ n:= fun e' => hpn i (by rw [hpc,e'])
  rw [hF']
  simp only [RE.unloc,if_neg hcn]
 ·simp only [Rep]
  refine ⟨_,cap,_,by rw [chunk_length],by rw [chunk_length]; exact hq.2.1,k1,k3,fun u hu => ?_,fun _ => ⟨b,o,rfl,?_⟩⟩
  ·rw [k2] at hu
   exact ho u (List.mem_of_mem_drop (List.mem_of_mem_take hu))
  ·rw [k2]
   intro j u hj
   refine ⟨by rw [hF']; exact .inr rfl,?_⟩
   rw [List.getElem?_take] at hj
   split at hj
   ·rw [List.getElem?_drop] at hj
    rw [hw]
    simp [World.cell?,hh]
    simpa using hj
   ·cases hj
theorem mkE_forget (s : List (Nat × AV)) (c : List (Nat × List AV)) (n : Nat) : (mkE s c).forget n = mkE (mapV (kill n) s) (mapV (killL n) (dropL [n] c)):= by
 simp only [mkE,Env.forget,Env.mk.injEq]
 constructor
 ·funext j; rw [getA_mapV _ rfl]
 ·funext j
  rw [getC_mapV,getC_dropL]
  split <;> rfl
theorem mkE_relab (s : List (Nat × AV)) (c : List (Nat × List AV)) (τ τ' : List Nat) : (mkE s c).relab τ τ' = mkE (mapV (relab τ τ') s) (mapV (relabL τ τ') c):= by
 simp only [mkE,Env.relab,Env.mk.injEq]
 constructor
 ·funext j; rw [getA_mapV _ rfl]
 ·funext j; rw [getC_mapV]
theorem mkE_killn' (s : List (Nat × AV)) (c : List (Nat × List AV)) (p : List Nat → Bool) : (mkE s c).killn p = mkE (mapV (killn p) s) (mapV (killnL p) c):= by
 simp only [mkE,Env.killn,Env.mk.injEq]
 constructor
 ·funext j; rw [getA_mapV _ rfl]
 ·funext j; rw [getC_mapV]
section
variable (τ τ' : List Nat)
@[go_sem] theorem relab_lit (v : Value) : relab τ τ' (.lit v) = .lit v:= rfl
@[go_sem] theorem relab_none (e : Nat) (r : List AV) : relab τ τ' (.sl .none e r) = .sl .none e r:= rfl
@[go_sem] theorem relab_nil (e : Nat) (r : List AV) : relab τ τ' (.sl .nil e r) = .sl .nil e r:= rfl
@[go_sem] theorem relab_bor (e : Nat) (r : List AV) : relab τ τ' (.sl .bor e r) = .sl .bor e r:= rfl
@[go_sem] theorem relab_gone (e : Nat) (r : List AV) : relab τ τ' (.sl .gone e r) = .sl .gone e r:= rfl
@[go_sem] theorem relab_own (t : List Nat) (e : Nat) (r : List AV) : relab τ τ' (.sl (.own t) e r) = if t = τ then .sl (.own τ') e r else if t = τ' then .sl .none e r else .sl (.own t) e r:= by
 simp only [relab]
 split
 ·rfl
 ·split <;> rfl
@[go_sem] theorem relab_fr (t : List Nat) (e : Nat) (r : List AV) : relab τ τ' (.sl (.fr t) e r) = if t = τ then .sl (.fr τ') e r else if t = τ' then .sl .gone e r else .sl (.fr t) e r:= by
 simp only [relab]
 split
 ·rfl
 ·split <;> rfl
@[go_sem] theorem relab_agg (cs : List AV) : relab τ τ' (.agg cs) = .agg (relabL τ τ' cs):= rfl
@[go_sem] theorem relab_tup (cs : List AV) : relab τ τ' (.tup cs) = .tup (relabL τ τ' cs):= rfl
@[go_sem] theorem relab_rp (cs : List AV) : relab τ τ' (.rp cs) = .rp cs:= rfl
@[go_sem] theorem relab_bp (cs : List AV) : relab τ τ' (.bp cs) = .bp cs:= rfl
@[go_sem] theorem relab_lp (c o : Nat) : relab τ τ' (.lp c o) = .lp c o:= rfl
@[go_sem] theorem relab_ml (c o n k : Nat) (g : Bool) (e : Nat) : relab τ τ' (.ml c o n k g e) = .ml c o n k g e:= rfl
@[go_sem] theorem relab_mp (k : List Value) (v : List AV) : relab τ τ' (.mp k v) = .mp k v:= rfl
@[go_sem] theorem relab_mu (t : List Nat) (k : List Value) (v : List AV) : relab τ τ' (.mu t k v) = .mu t k v:= rfl
@[go_sem] theorem relab_gl (i : Nat) : relab τ τ' (.gl i) = .gl i:= rfl
@[go_sem] theorem relab_gp (i : Nat) : relab τ τ' (.gp i) = .gp i:= rfl
@[go_sem] theorem relab_dead : relab τ τ' .dead = .dead:= rfl
@[go_sem] theorem relab_ifc (t : TypeId) (x : AV) : relab τ τ' (.ifc t x) = .ifc t (relab τ τ' x):= rfl
@[go_sem] theorem relab_clo (f : Fn) (a b : List AV) : relab τ τ' (.clo f a b) = .clo f (relabL τ τ' a) (relabL τ τ' b):= rfl
@[go_sem] theorem relabL_nil : relabL τ τ' [] = []:= rfl
@[go_sem] theorem relabL_cons (x : AV) (xs : List AV) : relabL τ τ' (x :: xs) = relab τ τ' x :: relabL τ τ' xs:= rfl
end
section
variable (p : List Nat → Bool)
@[go_sem] theorem killn_sl (t : Tok) (e : Nat) (r : List AV) : killn p (.sl t e r) = .sl t e r:= rfl
@[go_sem] theorem killn_lp (c o : Nat) : killn p (.lp c o) = .lp c o:= rfl
@[go_sem] theorem killn_rp (cs : List AV) : killn p (.rp cs) = .rp cs:= rfl
@[go_sem] theorem killn_bp (cs : List AV) : killn p (.bp cs) = .bp cs:= rfl
@[go_sem] theorem killn_ml (c o n k : Nat) (g : Bool) (e : Nat) : killn p (.ml c o n k g e) = .ml c o n k g e:= rfl
@[go_sem] theorem killn_mf (t : List Nat) (al : Bool) : killn p (.mf t al) = .mf t al:= rfl
@[go_sem] theorem killn_mp (k : List Value) (v : List AV) : killn p (.mp k v) = .mp k v:= rfl
@[go_sem] theorem killn_mu (t : List Nat) (k : List Value) (v : List AV) : killn p (.mu t k v) = if p t = true then .dead else .mu t k v:= rfl
@[go_sem] theorem killn_gl (i : Nat) : killn p (.gl i) = .gl i:= rfl
@[go_sem] theorem killn_gp (i : Nat) : killn p (.gp i) = .gp i:= rfl
@[go_sem] theorem killn_dead : killn p .dead = .dead:= rfl
@[go_sem] theorem killn_agg (cs : List AV) : killn p (.agg cs) = .agg (killnL p cs):= rfl
@[go_sem] theorem killn_tup (cs : List AV) : killn p (.tup cs) = .tup (killnL p cs):= rfl
@[go_sem] theorem killn_ifc (t : TypeId) (x : AV) : killn p (.ifc t x) = .ifc t (killn p x):= rfl
@[go_sem] theorem killn_clo (f : Fn) (a b : List AV) : killn p (.clo f a b) = .clo f (killnL p a) (killnL p b):= rfl
@[go_sem] theorem killnL_nil : killnL p [] = []:= rfl
@[go_sem] theorem killnL_cons (x : AV) (xs : List AV) : killnL p (x :: xs) = killn p x :: killnL p xs:= rfl
variable (τ : List Nat) (ks : List Value) (vs : List AV)
@[go_sem] theorem renew_lit (v : Value) : renew τ ks vs (.lit v) = .lit v:= rfl
@[go_sem] theorem renew_sl (t : Tok) (e : Nat) (r : List AV) : renew τ ks vs (.sl t e r) = .sl t e r:= rfl
@[go_sem] theorem renew_lp (c o : Nat) : renew τ ks vs (.lp c o) = .lp c o:= rfl
@[go_sem] theorem renew_rp (cs : List AV) : renew τ ks vs (.rp cs) = .rp cs:= rfl
@[go_sem] theorem renew_bp (cs : List AV) : renew τ ks vs (.bp cs) = .bp cs:= rfl
@[go_sem] theorem renew_ml (c o n k : Nat) (g : Bool) (e : Nat) : renew τ ks vs (.ml c o n k g e) = .ml c o n k g e:= rfl
@[go_sem] theorem renew_mf (t : List Nat) (al : Bool) : renew τ ks vs (.mf t al) = .mf t al:= rfl
@[go_sem] theorem renew_mp (k : List Value) (v : List AV) : renew τ ks vs (.mp k v) = .mp k v:= rfl
@[go_sem] theorem renew_mu (t : List Nat) (k : List Value) (v : List AV) : renew τ ks vs (.mu t k v) = if t = τ then .mu t ks vs else .mu t k v:= rfl
@[go_sem] theorem renew_gl (i : Nat) : renew τ ks vs (.gl i) = .gl i:= rfl
@[go_sem] theorem renew_dead : renew τ ks vs .dead = .dead:= rfl
@[go_sem] theorem renew_agg (cs : List AV) : renew τ ks vs (.agg cs) = .agg (renewL τ ks vs cs):= rfl
@[go_sem] theorem renewL_nil : renewL τ ks vs [] = []:= rfl
@[go_sem] theorem renewL_cons (x : AV) (xs : List AV) : renewL τ ks vs (x :: xs) = renew τ ks vs x :: renewL τ ks vs xs:= rfl
end
end Go.Proofs.YtnndbbmidoidpaaGreatDoor.VL
end

section
set_option maxHeartbeats 4000000
namespace Go.Proofs.YtnndbbmidoidpaaGreatDoor.VL
open Go.RowKit Go.Proofs Go.Sort
abbrev f_q246 : FuncId:= 222
theorem rep_nums {E : RE} : ∀ {l : List Nat} {vs : List Value},RepL E (l.map avU) vs → vs = l.map SQ.enc
 | [],vs,h => by simpa [RepL] using h
 | a :: l,vs,h => by
  simp only [List.map_cons,RepL,avU,Rep] at h
  obtain ⟨v,ws,rfl,rfl,h2⟩:= h
  rw [rep_nums h2]
  rfl
theorem flat_nums : ∀ l : List Nat,flat (l.map SQ.enc) = l.map SQ.enc
 | [] => rfl
 | a :: l => by
  have:= flat_nums l
  simp only [flat,List.map_cons,List.flatMap_cons] at this ⊢
  rw [this]
  rfl
theorem repL_nums (E : RE) : ∀ l : List Nat,RepL E (l.map avU) (l.map SQ.enc)
 | [] => by simp [RepL]
 | a :: l => by
  simp only [List.map_cons,RepL]
  exact ⟨_,_,rfl,by simp only [avU,Rep,SQ.enc],repL_nums E l⟩
theorem C_AppendSeq (t : Tok) (e : Nat) (l : List Nat) (ht : t = .none ∨ l = []) (h0 : l ≠ []) (hl : l.length ≤ 4294967296) :
  AC Tryz.prog f_q246 [.sl .nil 0 [],.clo (.func f_q194) [] [.rp [.sl t e (l.map avU)]]] (.sl (.fr [0]) 1 (l.map avU)):= by
 obtain rfl : t = .none:= ht.resolve_right h0
 refine ⟨rfl,enters_of Tryz.func222 (by kernel_rfl) (by kernel_rfl),fun R cargs hR hh hg ha => ?_⟩
 simp only [RepL,Rep] at ha
 obtain ⟨_,_,rfl,⟨A,cap,vs,rfl,_,hvs,_,_,rfl,rfl⟩,_,_,rfl,⟨fs,cs,rfl,rfl,w1,ws1,rfl,⟨Bs,Bo,us,rfl,⟨sv,us',rfl,⟨A2,cap2,vs2,rfl,hcap2,hr2,_,_,hat2⟩,rfl⟩,hat⟩,rfl⟩,rfl⟩:= ha
 have hlen : (l.map avU).length = l.length:= by simp
 have hne : l.map avU ≠ []:= by simpa using h0
 obtain ⟨b,o,rfl,hat3⟩:= hat2 hne
 obtain rfl:= rep_nums hr2
 rw [flat_nums] at hat3
 have hBs:= hat 0 _ rfl
 simp only [Nat.add_zero] at hBs
 have hlt:= hR.S _ _ hBs.1
 have hcell : ∀ j,j < l.length → R.w.cell? ⟨b,o + j,none⟩ = some (.int .u32 ((l[j]?.getD 0 : Nat) : Int)):= by
  intro j hj
  refine (hat3 j _ ?_).2
  rw [List.getElem?_map,List.getElem?_eq_getElem hj]
  rfl
 have hb : b < R.w.heap.size:= by
  obtain ⟨x,hx⟩ : ∃ x,(l.map SQ.enc)[0]? = some x:= by
   cases l with
   | nil => exact absurd rfl h0
   | cons a l => exact ⟨_,rfl⟩
  exact hR.S _ _ (hat3 0 _ hx).1
 rw [hlen] at hBs
 have hN : SQ.Nums R.w.heap.size R.w (.slice (some ⟨b,o,none⟩) l.length cap2) l:= ⟨_,cap2,rfl,fun _ => ⟨b,o,rfl,hb,hcell⟩⟩
 have main:= callsIn_wide.1 (SQ.appendSeq_in _ 3 trivial trivial rfl (Nat.le_refl _) Bs Bo _ l hl R.w hlt hBs.2 hN)
 refine main.mono ?_
 rintro e w' ⟨v,rfl,hown,hone,hbl⟩
 obtain ⟨hxl,hcase⟩:= hown
 rcases hcase with ⟨_,hz⟩ | ⟨g,cap3,cur,rfl,hbase,hgb,q1,q2,q3,q4⟩
 ·exact absurd (List.eq_nil_of_length_eq_zero hz) h0
 ·have hgl : g < w'.heap.size:= (Array.getElem?_eq_some_iff.1 hgb).1
  refine ⟨_,{ R with w:= w',own:= fun k τ => k = g ∧ τ = [0] },rfl,rfl,?_,⟨⟨hbl.os,hbl.tape,hbl.output,hbl.size,fun k hk _ => hbl.block k hk⟩,hR.MS,fun b o _ => Iff.rfl,fun b o hs => Nat.lt_of_lt_of_le (hR.S b o hs) hbl.size,rfl,fun k τ ho => ?_,fun k τ τ' h1 h2 => by rw [h1.2,h2.2],fun c b hc => hc⟩,fun c b hc => ?_⟩
  ·simp only [Rep]
   refine ⟨_,cap3,l.map SQ.enc,by rw [hlen],by rw [hlen]; exact q1,repL_nums _ _,fun u hu => ?_,fun u hu => ?_,.inr ⟨g,cur,_,rfl,fun j u hj => ⟨trivial,?_⟩,hgb,q2,by rw [q3],by simp,fun o hs => ?_,hone g cur _ _ rfl hgb⟩⟩
   ·obtain ⟨a,_,rfl⟩:= List.mem_map.1 hu
    rfl
   ·rw [flat_nums] at hu
    obtain ⟨a,_,rfl⟩:= List.mem_map.1 hu
    rfl
   ·rw [flat_nums,← q4,List.getElem?_take] at hj
    split at hj
    ·simp only [World.cell?,hgb,Nat.zero_add]
     simpa using hj
    ·cases hj
   ·have:= hR.S g o hs
    omega
  ·obtain ⟨rfl,_⟩:= ho
   exact ⟨hbase,hgl⟩
  ·obtain ⟨cs,_,_,e,_⟩:= hh c b hc
   cases e
theorem C_AppendSeq0 (t : Tok) (e : Nat) : AC Tryz.prog f_q246 [.sl .nil 0 [],.clo (.func f_q194) [] [.rp [.sl t e []]]] (.sl .none 1 []):= by
 refine ⟨rfl,enters_of Tryz.func222 (by kernel_rfl) (by kernel_rfl),fun R cargs hR hh hg ha => ?_⟩
 simp only [RepL,Rep] at ha
 obtain ⟨_,_,rfl,⟨A,cap,vs,rfl,_,hvs,_,_,rfl,rfl⟩,_,_,rfl,⟨fs,cs,rfl,rfl,w1,ws1,rfl,⟨Bs,Bo,us,rfl,⟨sv,us',rfl,⟨A2,cap2,vs2,rfl,hcap2,hr2,_,_,hat2⟩,rfl⟩,hat⟩,rfl⟩,rfl⟩:= ha
 have hBs:= hat 0 _ rfl
 simp only [Nat.add_zero] at hBs
 have hlt:= hR.S _ _ hBs.1
 have hN : SQ.Nums R.w.heap.size R.w (.slice A2 ([] : List AV).length cap2) []:= ⟨_,cap2,rfl,fun h => absurd rfl h⟩
 have main:= callsIn_wide.1 (SQ.appendSeq_in _ 3 trivial trivial rfl (Nat.le_refl _) Bs Bo _ [] (by simp) R.w hlt hBs.2 hN)
 refine main.mono ?_
 rintro e w' ⟨v,rfl,hown,hone,hbl⟩
 refine ⟨v,{ R with w:= w' },rfl,rfl,?_,⟨⟨hbl.os,hbl.tape,hbl.output,hbl.size,fun k hk _ => hbl.block k hk⟩,hR.MS,fun b o _ => Iff.rfl,fun b o hs => Nat.lt_of_lt_of_le (hR.S b o hs) hbl.size,rfl,fun g τ ho => (hR.own g τ ho).elim,fun g τ τ' ho => (hR.own g τ ho).elim,fun c b hc => hc⟩,fun c b hc => ?_⟩
 ·obtain ⟨_,hcase⟩:= hown
  simp only [Rep]
  rcases hcase with ⟨rfl,_⟩ | ⟨g,cap3,cur,rfl,_⟩
  ·exact ⟨none,0,[],rfl,Nat.le_refl _,by simp [RepL],by simp,by simp [flat],fun h => absurd rfl h⟩
  ·exact ⟨_,cap3,[],rfl,Nat.zero_le _,by simp [RepL],by simp,by simp [flat],fun h => absurd rfl h⟩
 ·obtain ⟨cs,_,_,e,_⟩:= hh c b hc
  cases e
end Go.Proofs.YtnndbbmidoidpaaGreatDoor.VL
end

section
namespace Go.Proofs.YtnndbbmidoidpaaGreatDoor.VL
open Go.RowKit
theorem VS.thaw {E : Env} {p : Spot} {n len cap e : Nat} {g : Bool} {cs l : List AV} (τ : List Nat) (hp : E.at p = some (.ml n 0 len cap g e)) (hn : n < 100000) (hc : E.c n = some cs) (hq : cs.length = cap * e ∧ cap ≤ maxLen ∧ len ≤ cap ∧ (g = true ∨ e = 1)) (hl : mapO closeV (cs.take (len * e)) = some l) (hpn : ∀ i,p ≠ .cell n i) :
  VS E fun E' => E' = ((E.strip τ).forget n).set p (.sl (.fr τ) e (chunk g e len l)):= by
 intro R N a F hR hI
 obtain ⟨v,hv,hset⟩:= hI.atSpot hp
 simp only [Rep] at hv
 obtain ⟨b,hb,rfl⟩:= hv
 obtain ⟨h1,h2,h3,cs',vals,ty,hcs',hh,hr,ho⟩:= hI.locc n b hb
 rw [hc] at hcs'
 injection hcs' with hcs'
 subst hcs'
 have hU:= (hI.unownT τ).forgetLoc n
 have hb0 : R.w.heap.size ≤ b:= h1.resolve_right fun h => by have:= hR.lim n b h; omega
 have hbl : b < F.w.heap.size:= (Array.getElem?_eq_some_iff.1 hh).1
 have hnl : ∀ c,((F.unown τ).unloc n).loc c ≠ some b:= fun c hc' => by
  simp only [RE.unloc] at hc'
  split at hc'
  ·cases hc'
  ·rename_i hcn; exact hcn (hI.loc1 c n b hc' hb)
 have hnm : ∀ t,F.mloc t ≠ some b:= fun t ht => (hI.mlocc t b ht).2.2.2.2 n hb
 have hno : ∀ t,¬ ((F.unown τ).unloc n).own b t:= fun t ht => h3 t ht.1
 obtain ⟨F',hF'⟩ : ∃ F' : RE,F' = { (F.unown τ).unloc n with own:= fun k t => ((F.unown τ).unloc n).own k t ∨ (k = b ∧ t = τ) }:= ⟨_,rfl⟩
 have hw : F'.w = F.w:= by rw [hF']; rfl
 have hx : Ext ((F.unown τ).unloc n) F':= by
  rw [hF']
  exact ⟨fun _ _ h => h,fun _ h => h,fun _ _ _ _ h => h,fun _ _ _ _ h => h,fun c b' hc' => hc',fun k t hk => ⟨.inl hk,rfl,fun _ h => h⟩,rfl,fun t b' hb => ⟨hb,rfl⟩⟩
 have hI1 : Inv R N ((E.strip τ).forget n) a F':= by
  refine ⟨hU.defers,hU.Nlim,by rw [hF']; exact hU.lentl,hU.size,by rw [hF']; exact hU.B,by rw [hF']; exact hU.Bok,by rw [hw]; exact hI.below,hU.Mlt,by rw [hF']; exact hU.MS,by rw [hF']; exact hU.par,by rw [hF']; exact hU.G,by rw [hF']; exact hU.S0,by rw [hF']; exact hU.Slt,fun k t hk => ?_,fun k t t' hk hk' => ?_,fun c b' hb' => ?_,by rw [hF']; exact hU.locd,by rw [hF']; exact hU.loc1,fun t b' hb' => ?_,by rw [hF']; exact hU.mloc1,fun k => (hU.slots k).mono hx⟩
  ·rw [hF'] at hk
   rw [hw]
   rcases hk with hk | ⟨rfl,_⟩
   ·exact hU.ownlt k t hk
   ·exact ⟨hb0,hbl⟩
  ·rw [hF'] at hk hk'
   rcases hk with hk | ⟨rfl,rfl⟩ <;> rcases hk' with hk' | ⟨e2,e3⟩
   ·exact hU.own1 k t t' hk hk'
   ·exact absurd (e2 ▸ hk) (hno t)
   ·exact absurd hk' (hno t')
   ·exact e3.symm
  ·have hb2 : ((F.unown τ).unloc n).loc c = some b':= by rw [hF'] at hb'; exact hb'
   obtain ⟨k1,k2,k3,cs,vals,ty',hcs',hh',hr',ho'⟩:= hU.locc c b' hb2
   refine ⟨k1,by rw [hF']; exact k2,fun t hk => ?_,cs,vals,ty',hcs',by rw [hw]; exact hh',hr'.mono hx,ho'⟩
   rw [hF'] at hk
   rcases hk with hk | ⟨rfl,_⟩
   ·exact k3 t hk
   ·exact hnl c hb2
  ·have hb2 : ((F.unown τ).unloc n).mloc t = some b':= by rw [hF'] at hb'; exact hb'
   obtain ⟨k1,k2,k3,k4,k5⟩:= hU.mlocc t b' hb2
   refine ⟨k1,by rw [hw]; exact k2,by rw [hF']; exact k3,fun t' hk => ?_,by rw [hF']; exact k5⟩
   rw [hF'] at hk
   rcases hk with hk | ⟨rfl,_⟩
   ·exact k4 t' hk
   ·exact hnm t hb2
 have hrl:= hr.length
 have hle : len * e ≤ cap * e:= Nat.mul_le_mul_right e hq.2.2.1
 have hcc : F'.closed = F.closed:= by rw [hF']; rfl
 have hq2 : RepL F'.closed l (vals.toList.take (len * e)):= by
  rw [hcc]
  exact mapO_rep (E:= F) (E':= F.closed) (fun x y v h1 h2 => close_rep hI h1 h2) hl (hr.take _)
 obtain ⟨k1,k2,k3⟩:= chunk_rep hq.2.2.2 len hq2 (by rw [List.length_take]; omega) fun u hu => ho u (List.mem_of_mem_take hu)
 refine ⟨_,F',hw,rfl,hset hI1 hw (fun c i hpc => ?_) ?_ ⟨_,at_forget n hpn (at_strip τ hp)⟩⟩
 ·have hcn : c ≠ n:= fun e' => hpn i (by rw [hpc,e'])
  rw [hF']
  simp only [RE.unloc,if_neg hcn]
  rfl
 ·simp only [Rep]
  refine ⟨_,cap,_,by rw [chunk_length],by rw [chunk_length]; exact hq.2.2.1,k1,k3,fun u hu => ?_,.inr ⟨b,vals,ty,rfl,?_,by rw [hw]; exact hh,hq.2.1,?_,?_,fun o hs => ?_,ho⟩⟩
  ·rw [k2] at hu
   exact ho u (List.mem_of_mem_take hu)
  ·rw [k2]
   intro j u hj
   refine ⟨trivial,?_⟩
   rw [List.getElem?_take] at hj
   split at hj
   ·rw [hw]
    simp [World.cell?,hh]
    simpa using hj
   ·cases hj
  ·rw [← Array.length_toList]
   omega
  ·rw [hF']; exact .inr ⟨rfl,rfl⟩
  ·rw [hF'] at hs
   exact h2 o hs
end Go.Proofs.YtnndbbmidoidpaaGreatDoor.VL
end

section
namespace Go.Proofs.YtnndbbmidoidpaaGreatDoor.VL
open Go.RowKit
section
variable {P : Program} {Q : AExit → Env → Prop} {K : Env → Prop} {s : List (Nat × AV)} {c : List (Nat × List AV)} {ops : List AOper} {deps : List (List Nat)}
def anyX (P : Program) (ops : List AOper) (deps : List (List Nat)) (t : ATree) (kl : List Nat) (Q : AExit → Env → Prop) (s : List (Nat × AV)) (c : List (Nat × List AV)) : Prop:= aw P (.any ops deps t kl) (mkE s c) Q
@[go_sem] theorem aw_any (t : ATree) (kl : List Nat) : aw P (.any ops deps t kl) (mkE s c) Q = anyX P ops deps t kl Q s c:= rfl
theorem anyX_of {t : ATree} {kl : List Nat} (hc : chkT ops deps ops.length [] t = true) (h : awT P ops t ((mkE s c).freshL (allocs ops)) fun E' => Q .normal (E'.dropS kl)) : anyX P ops deps t kl Q s c:= ⟨hc,h⟩
@[go_sem] theorem awT_done : awT P ops .done (mkE s c) K = K (mkE s c):= rfl
@[go_sem] theorem awT_take (i : Nat) (t : ATree) : awT P ops (.take i t) (mkE s c) K = awX true P [ops.getD i default] (mkE s c) fun E' => awT P ops t E' K:= rfl
theorem altX_of {i : Nat} {t r : ATree} (h1 : awX true P [ops.getD i default] (mkE s c) fun E' => awT P ops t E' K) (h2 : awT P ops r (mkE s c) K) : awT P ops (.alt i t r) (mkE s c) K:= ⟨h1,h2⟩
theorem altX_non : awT P ops .non (mkE s c) K:= trivial
@[go_sem] theorem x_callmD (f : FuncId) (args : List Operand) (dst : Option Nat) (g : Option (Nat × Bool)) : awX true P [⟨dst,.callm f args,g⟩] (mkE s c) K = awX false P [⟨dst,.callm f args,g⟩] (mkE s c) K:= by
 show (awD P _ _ _) = (awOps P _ _ _)
 rw [awOps_cons]
 unfold awD
 apply propext
 exact ⟨fun h => h.2,fun h => ⟨fun e => by simp [AOper.cls] at e,h⟩⟩
end
end Go.Proofs.YtnndbbmidoidpaaGreatDoor.VL
end

section
set_option maxHeartbeats 4000000
namespace Go.Proofs.YtnndbbmidoidpaaGreatDoor.VL
open Go.RowKit Go.Proofs Go.Sort
theorem C_IndexFuncAddr {f : FuncId} {fst caps : List AV} {asf : Nat → List AV} {p : Nat → Bool} (t : Tok) (e : Nat) (l : List Nat) (hf : frB t = false) (he : e = 1 ∨ l = []) (hl : l.length < 9223372036854775808)
    (hlow : ∀ n, mapO (lower (getC []) 8) (fst ++ [(avU n)] ++ caps) = some (asf n)) (hAC : ∀ n ∈ l, AC Tryz.prog f (asf n) (.lit (.bool (p n)))) :
    AC Tryz.prog f_q192 [.sl t e (l.map avU), .clo (.func f) fst caps] (.lit (.int .i64 (idxOf p l))) := by
  refine ac_q192 ?_ (Nat.le_add_left 2 17)
  simp only [go_sem, c_q192]
  refine aw_loop (fun m E => ∃ k, k + m = l.length ∧ (∀ (j : Nat) (y : Nat), j < k → l[j]? = some y → p y = false) ∧ E = mkE [(0, .sl t e (l.map avU)), (1, .clo (.func f) fst caps), (7, .lit (.int .i64 l.length)), (8, .lit (.int .i64 (k : Nat)))] []) l.length ?_ ?_
  · exact ⟨0, by omega, fun j y hj => absurd hj (Nat.not_lt_zero j), by simp only [go_sem, Int.ofNat_zero]⟩
  · rintro m _ ⟨k, hk, hall, rfl⟩
    simp only [go_sem]
    refine condX_of (fun h => ?_) (fun h => ?_)
    · have hkl : k < l.length := by simpa using h
      obtain rfl : e = 1 := he.resolve_right (fun h => by rw [h] at hkl; simp at hkl)
      obtain ⟨x, hx⟩ : ∃ x, l[k]? = some x := ⟨l[k], List.getElem?_eq_getElem hkl⟩
      have hw := wrap_succ k (by omega)
      have hlx := hlow x
      simp only [avU, avStr, avU] at hlx
      simp only [go_sem, h, hx, Int.toNat_natCast, Int.natCast_nonneg, List.getElem?_map, avRow_some, hf, avU, avStr, avU, hlx]
      refine callX_of (hAC x (List.mem_of_getElem? hx)) ?_
      cases hp : p x
      · simp only [go_sem, hw]
        refine ⟨m - 1, by omega, k + 1, by omega, fun j y hj hy => ?_, rfl⟩
        by_cases hjk : j = k
        · subst hjk
          rw [hx] at hy
          injection hy with hy
          rw [← hy]
          exact hp
        · exact hall j y (by omega) hy
      · simp only [go_sem, idxOf_some hx hp hall]
    · have hkl : k = l.length := by have : ¬ k < l.length := by simpa using h
                                    omega
      have e : idxOf p l = -1 := idxOf_none fun i x hi => hall i x (by have := (List.getElem?_eq_some_iff.1 hi).1; omega) hi
      simp only [go_sem, h, e]
theorem C_member_1 (y : Nat) (hy : y < 4294967296) : AC Tryz.prog f_q146 [avU y] (.lit (.bool (!hostN y))):= by
 refine ac_q146 ?_ (Nat.le_add_left 1 _)
 simp only [go_sem,c_q146,avU]
 refine callX_of (C_host y hy) ?_
 simp only [go_sem]
theorem C_has_member_1 (t : Tok) (e : Nat) (l : List Nat) (ht : lowTok t = t) (hf : frB t = false) (he : e = 1 ∨ l = []) (hl : l.length < 9223372036854775808) (hx : ∀ y ∈ l,y < 4294967296) :
  AC Tryz.prog f_q145 [.sl t e (l.map avU),.clo (.func f_q146) [] []] (.lit (.bool (l.any fun y => !hostN y))):= by
 refine ac_q145 ?_ (Nat.le_add_left 2 _)
 simp only [go_sem,c_q145,avStr,ht]
 refine callX_of (C_IndexFuncAddr (asf:= fun y => [avU y]) (p:= fun y => !hostN y) t e l hf he hl (fun y => ?_) (fun y hy => C_member_1 y (hx y hy))) ?_
 ·simp only [go_sem,avU,lower]
 ·simp only [go_sem,any_idx]
theorem C_Values (t : Tok) (e : Nat) (rows : List AV) (ht : t = .none ∨ t = .nil) : AC Tryz.prog f_q148 [.sl t e rows] (.clo (.func f_q194) [] [.rp [.sl t e rows]]):= by
 refine ac_q148 ?_ (Nat.le_add_left 1 _)
 rcases ht with rfl | rfl <;> simp only [go_sem,c_q148] <;> rfl
theorem C_Collect (t : Tok) (e : Nat) (l : List Nat) (ht : t = .none ∨ l = []) (h0 : l ≠ []) (hl : l.length ≤ 4294967296) :
  AC Tryz.prog f_q193 [.clo (.func f_q194) [] [.rp [.sl t e (l.map avU)]]] (.sl (.fr [4,0]) 1 (l.map avU)):= by
 refine ac_q193 ?_ (Nat.le_add_left 1 _)
 simp only [go_sem,c_q193]
 refine callX_of (C_AppendSeq t e l ht h0 hl) ?_
 simp only [go_sem]
theorem C_Collect0 (t : Tok) (e : Nat) : AC Tryz.prog f_q193 [.clo (.func f_q194) [] [.rp [.sl t e []]]] (.sl .none 1 []):= by
 refine ac_q193 ?_ (Nat.le_add_left 1 _)
 simp only [go_sem,c_q193]
 refine callX_of (C_AppendSeq0 t e) ?_
 simp only [go_sem]
def zs (l : List Nat) : List Int:= l.map fun (n : Nat) => (n : Int)
theorem zs_av (l : List Nat) : (zs l).map aI = l.map avU:= by
 unfold zs
 rw [List.map_map]
 exact List.map_congr_left fun n _ => rfl
def sorted (l : List Nat) : List Int:= (zs l).mergeSort (fun x y => decide (x ≤ y))
theorem C_Sorted0 (t : Tok) (e : Nat) : AC Tryz.prog f_q147 [.clo (.func f_q194) [] [.rp [.sl t e []]]] (.sl .none 1 []):= by
 refine ac_q147 ?_ (Nat.le_add_left 1 _)
 simp only [go_sem,c_q147]
 refine callX_of (C_Collect0 t e) ?_
 simp only [go_sem]
 refine shiftX_refl ?_
 simp only [go_sem]
 refine callX_of (C_Sort0 _ _) ?_
 simp only [go_sem]
 refine shiftX_refl ?_
 simp only [go_sem]
theorem C_SortedF (t : Tok) (e : Nat) (l : List Nat) (ht : t = .none ∨ l = []) (h0 : l ≠ []) (hl : l.length ≤ 255) :
  AC Tryz.prog f_q147 [.clo (.func f_q194) [] [.rp [.sl t e (l.map avU)]]] (.sl (.fr [3]) 1 ((sorted l).map aI)):= by
 refine ac_q147 ?_ (Nat.le_add_left 1 _)
 simp only [go_sem,c_q147]
 refine callX_of (C_Collect t e l ht h0 (by omega)) ?_
 rw [← zs_av]
 have hz0 : zs l ≠ []:= by simpa [zs] using h0
 have hzl : (zs l).length = l.length:= by simp [zs]
 rw [← hzl] at hl
 unfold sorted
 generalize zs l = z at hz0 hl
 simp only [go_sem]
 refine shiftX_of (VS.adoptX (p:= .slot 3) (g:= false) 0 rfl (by simpa using hz0) (fun r hr => ?_) (by decide) rfl) ?_
 ·obtain ⟨n,_,rfl⟩:= List.mem_map.1 hr
  rfl
 ·rintro _ ⟨cap,j,hcap,hcl,rfl⟩
  rw [cells_ints] at hcl ⊢
  simp only [List.length_map] at hcap hcl ⊢
  simp only [Env.set]
  simp only [mkE_strip,mkE_put,mkE_putc]
  have ht : Tl (List.replicate j .dead):= fun x hx => .inl (List.eq_of_mem_replicate hx)
  have htl : (List.replicate j AV.dead).length = j:= List.length_replicate
  generalize List.replicate j AV.dead = tl at ht htl ⊢
  have hS:= C_SortL (cap:= cap) ht hl
  have hm : (z.mergeSort (fun x y => decide (x ≤ y))).length = z.length:= List.length_mergeSort _
  generalize z.mergeSort (fun x y => decide (x ≤ y)) = l' at hS hm ⊢
  simp only [go_sem]
  refine call0_of ht rfl hS ?_
  simp only [go_sem]
  refine shiftX_of (VS.thaw [3] (p:= .slot 3) rfl (by decide) rfl (l:= l'.map aI) ⟨by simp; omega,hcl.2,hcap,.inr rfl⟩ ?_ (fun i e => by injection e)) ?_
  ·rw [Nat.mul_one,← hm,List.take_append_of_le_length (by simp),List.take_of_length_le (by simp)]
   refine mapO_id fun x hx => ?_
   obtain ⟨n,_,rfl⟩:= List.mem_map.1 hx
   rfl
  rintro _ rfl
  rw [← hm,chunk_ints]
  simp only [mkE_strip,mkE_forget]
  simp only [Env.set,mkE_put]
  simp only [go_sem]
theorem dd_full : ∀ l : List Int,(dd l).length = l.length → dd l = l
 | [],_ => rfl
 | [a],_ => rfl
 | a :: b :: t,h => by
  have h2:= dd_len (b :: t)
  simp only [dd] at h ⊢
  by_cases e : a = b
  ·rw [if_pos e] at h
   simp only [List.length_cons] at h h2
   omega
  ·rw [if_neg e] at h ⊢
   simp only [List.length_cons,Nat.add_right_cancel_iff] at h
   rw [dd_full (b :: t) (by simpa using h)]
theorem dd_strict : ∀ l : List Int,l.Pairwise (· < ·) → dd l = l
 | [],_ => rfl
 | [a],_ => rfl
 | a :: b :: t,h => by
  have h2:= List.pairwise_cons.1 h
  have h3:= h2.1 b (by simp)
  simp only [dd]
  rw [if_neg (by omega),dd_strict (b :: t) h2.2]
theorem mem_dd0 {a : Int} : ∀ {l : List Int},a ∈ dd l → a ∈ l
 | [],h => h
 | [b],h => h
 | b :: c :: t,h => by
  simp only [dd] at h
  split at h
  ·exact List.mem_cons_of_mem _ (mem_dd0 h)
  ·rcases List.mem_cons.1 h with rfl | h
   ·simp
   ·exact List.mem_cons_of_mem _ (mem_dd0 h)
theorem dd_lt0 : ∀ {l : List Int},l.Pairwise (· ≤ ·) → (dd l).Pairwise (· < ·)
 | [],_ => List.Pairwise.nil
 | [a],_ => by simp [dd]
 | a :: b :: t,h => by
  have h2:= List.pairwise_cons.1 h
  have ih:= dd_lt0 h2.2
  simp only [dd]
  by_cases e : a = b
  ·rw [if_pos e]; exact ih
  ·rw [if_neg e]
   refine List.pairwise_cons.2 ⟨fun x hx => ?_,ih⟩
   have h3:= h2.1 b List.mem_cons_self
   rcases List.mem_cons.1 (mem_dd0 hx) with rfl | hx
   ·omega
   ·have:= (List.pairwise_cons.1 h2.2).1 x hx
    omega
theorem sorted_len (l : List Nat) : (sorted l).length = l.length:= by simp [sorted,zs,List.length_mergeSort]
theorem sorted_lt (l : List Nat) (h : l.Nodup) : (sorted l).Pairwise (· < ·):= by
 have hz : (zs l).Nodup:= by
  unfold zs
  rw [List.nodup_iff_pairwise_ne,List.pairwise_map]
  exact (List.nodup_iff_pairwise_ne.1 h).imp fun h e => h (by omega)
 have hp:= List.mergeSort_perm (zs l) (fun x y => decide (x ≤ y))
 have hn : (sorted l).Nodup:= hp.nodup_iff.2 hz
 have hs : (sorted l).Pairwise (fun a b => decide (a ≤ b) = true):= List.pairwise_mergeSort (le:= fun x y : Int => decide (x ≤ y)) (by simp; omega) (by simp; omega) (zs l)
 rw [List.nodup_iff_pairwise_ne] at hn
 exact (hs.and hn).imp fun ⟨h1,h2⟩ => by simp at h1; omega
theorem sorted_dd (l : List Nat) : ((dd (sorted l)).length < l.length) ↔ ¬ l.Nodup:= by
 constructor
 ·intro h hn
  rw [dd_strict _ (sorted_lt l hn),sorted_len] at h
  omega
 ·intro hn
  have h1:= dd_len (sorted l)
  rw [sorted_len] at h1
  apply Classical.byContradiction
  intro h2
  apply hn
  have h3 : dd (sorted l) = sorted l:= dd_full _ (by rw [sorted_len]; omega)
  have hs : (sorted l).Pairwise (· ≤ ·):= by
   have:= List.pairwise_mergeSort (le:= fun x y : Int => decide (x ≤ y)) (by simp; omega) (by simp; omega) (zs l)
   exact this.imp fun h => by simpa using h
  have h4:= dd_lt0 hs
  rw [h3] at h4
  have hp:= List.mergeSort_perm (zs l) (fun x y => decide (x ≤ y))
  have h5 : (sorted l).Nodup:= by
   rw [List.nodup_iff_pairwise_ne]
   exact h4.imp fun h => by omega
  have h6 : (zs l).Nodup:= hp.nodup_iff.1 h5
  unfold zs at h6
  rw [List.nodup_iff_pairwise_ne,List.pairwise_map] at h6
  rw [List.nodup_iff_pairwise_ne]
  exact h6.imp fun h e => h (by rw [e])
theorem back_0k (s : List (Nat × AV)) (c : List (Nat × List AV)) (x y : List AV) : backC [(0,100000)] [(100000,y)] (mkE s ((0,x) :: c)) = mkE s ((0,y) :: c):= by
 simp only [backC,mkE]
 congr 1
 funext k
 by_cases h2 : k = 0
 ·subst h2; rfl
 ·simp [lentAs,getC,h2]
theorem call0a_of {P : Program} {dst : Option Nat} {os : List AOper} {s : List (Nat × AV)} {c' : List (Nat × List AV)} {K : Env → Prop} {f : FuncId} {raw al : List AV} {args : Option (List AV)} {r : AV} {l : List Int} {tl y : List AV} (ht : Tl tl)
  (hl : mapO (lowerM [(0,100000)] (getC ((0,l.map aI ++ tl) :: c')) 8) raw = some al) (h : AM P f al [(100000,l.map aI ++ tl)] r [(100000,y)])
  (hk : awX false P os ((mkE s ((0,y) :: c')).putO dst (retag (dst.getD 0) (unlend [(0,100000)] r))) K) : callX false P dst os s ((0,l.map aI ++ tl) :: c') K f raw args:= by
 refine callM_of [(0,100000)] rfl hl ?_ h ?_
 ·show mapO _ _ = _
  have:= close_dC l.toArray ht
  rw [show dC l.toArray tl = l.map aI ++ tl by simp [dC]] at this
  simp only [mapO_cons,mapO_nil,getC_cons,↓reduceIte,this,catO_some]
 ·rw [back_0k]
  exact hk
theorem C_member (w : NW) (h : w.OK) (i : Nat) (x : NM) (hx : w.mbs[i]? = some x) :
  AC Tryz.prog f_q76 [.agg (netV w),.lit (.int .i64 (i : Nat))] (amiss (mbOf w x)):= by
 have hi : i < w.mbs.length:= (List.getElem?_eq_some_iff.1 hx).1
 have hm : x ∈ w.mbs:= List.mem_of_getElem? hx
 refine ac_q76 ?_ (Nat.le_add_left 2 _) (by unfold mbOf; split <;> (try split) <;> (try split) <;> (try split) <;> rfl)
 have gm : (0 ∈ GS) = True:= eq_true (by simp [GS])
 simp only [go_sem,c_q76,netV,Int.toNat_natCast,Int.natCast_nonneg,List.getElem?_map,hx,rowAgg,avMb,avU,List.length_map]
 refine callX_of (C_place x.lk w.lks.length) ?_
 cases h2 : placeN x.lk w.lks.length
 ·simp only [go_sem,h2,g_none,mbOf,amiss,Bool.not_false]
 simp only [go_sem,h2,Bool.not_true]
 refine callX_of (C_Group x.g (h.mbg x hm)) ?_
 cases h3 : groupN x.g
 ·simp only [go_sem,h2,h3,g_kind,mbOf,amiss,Bool.not_false,Bool.true_or,Bool.true_eq_false]
 simp only [go_sem,h3,Bool.not_true]
 refine callX_of (C_has_member_1 .none 1 x.src rfl rfl (.inl rfl) (h.mbl x hm) (h.mbs x hm)) ?_
 cases h4 : x.src.any fun y => !hostN y
 case true => simp only [go_sem,h2,h3,h4,g_kind,mbOf,amiss,Bool.not_true,Bool.false_or,Bool.true_eq_false]
 simp only [go_sem,h4,List.length_map]
 by_cases h5 : 4 < x.src.length
 ·have f5 : (4 < (x.src.length : Int)) = True:= eq_true (by omega)
  simp only [go_sem,f5,gm,h2,h3,h4,h5,mbOf,amiss,decide_true,Bool.not_true,Bool.false_or,Bool.true_eq_false,Bool.false_eq_true]
 have f5 : (4 < (x.src.length : Int)) = False:= eq_false (by omega)
 have g2 : (2 ∈ GS) = True:= eq_true (by simp [GS])
 simp only [go_sem,f5,decide_false]
 refine callX_of (C_Values .none 1 (x.src.map avU) (.inl rfl)) ?_
 simp only [go_sem]
 by_cases h0 : x.src = []
 ·have hnd : x.src.Nodup:= by rw [h0]; exact List.Pairwise.nil
  rw [h0,List.map_nil]
  refine callX_of (C_Sorted0 .none 1) ?_
  simp only [go_sem]
  refine shiftX_refl ?_
  simp only [go_sem]
  refine anyX_of o_conf_checks_member_9_t ?_
  have f6 : (((0 : Nat) : Int) < ((0 : Nat) : Int)) = False:= eq_false (by omega)
  have fin : amiss (mbOf w x) = .lit .nilIface:= by simp only [h2,h3,h4,h5,hnd,mbOf,amiss,Bool.not_true,Bool.false_or,Bool.true_eq_false,Bool.false_eq_true,decide_true,decide_false,if_false]
  rw [fin]
  simp only [go_sem]
  refine altX_of ?_ (altX_of ?_ altX_non)
  ·simp only [go_sem]
   refine callX_of (C_Compact0 1) ?_
   simp only [go_sem]
   refine altX_of ?_ altX_non
   simp only [go_sem,List.length_nil,f6,decide_false]
  ·simp only [go_sem]
   refine altX_of ?_ altX_non
   simp only [go_sem]
   refine callX_of (C_Compact0 1) ?_
   simp only [go_sem,List.length_nil,f6,decide_false]
 ·refine callX_of (C_SortedF .none 1 x.src (.inl rfl) h0 (by omega)) ?_
  simp only [go_sem]
  have hl:= sorted_len x.src
  have hdd:= sorted_dd x.src
  have hz0 : sorted x.src ≠ []:= by
   intro e
   rw [e] at hl
   exact h0 (List.length_eq_zero_iff.1 hl.symm)
  have fin : amiss (mbOf w x) = if (dd (sorted x.src)).length < x.src.length then .gl 2 else .lit .nilIface:= by
   by_cases hnd : x.src.Nodup
   ·rw [if_neg fun h => hdd.1 h hnd]
    simp only [h2,h3,h4,h5,hnd,mbOf,amiss,Bool.not_true,Bool.false_or,Bool.true_eq_false,Bool.false_eq_true,decide_true,decide_false,if_false]
   ·rw [if_pos (hdd.2 hnd)]
    simp only [h2,h3,h4,h5,hnd,mbOf,amiss,Bool.not_true,Bool.false_or,Bool.true_eq_false,Bool.false_eq_true,decide_true,decide_false,if_false,if_true]
  rw [fin]
  refine shiftX_of (VS.adopt (p:= .slot 6) (g:= false) 0 rfl (by simpa using hz0) (fun r hr => ?_) (by decide) rfl) ?_
  ·obtain ⟨n,_,rfl⟩:= List.mem_map.1 hr
   rfl
  rintro _ ⟨cap,j,hcap,rfl⟩
  rw [cells_ints]
  simp only [List.length_map] at hcap ⊢
  simp only [Env.set]
  simp only [mkE_strip,mkE_put,mkE_putc]
  have ht : Tl (List.replicate j .dead):= fun x hx => .inl (List.eq_of_mem_replicate hx)
  generalize List.replicate j AV.dead = tl at ht ⊢
  have hC:= C_Compact (d:= (sorted x.src).toArray) (cap:= cap) ht (by simpa using hcap) (by simp [hl]; omega)
  rw [show dC (sorted x.src).toArray tl = (sorted x.src).map aI ++ tl by simp [dC]] at hC
  simp only [List.size_toArray] at hC
  generalize sorted x.src = l' at *
  generalize hr : (dd l').length = r at *
  simp only [go_sem]
  refine anyX_of o_conf_checks_member_9_t ?_
  simp only [go_sem]
  have fin2 : ∀ (b : Bool),b = decide (r < x.src.length) → True:= fun _ _ => trivial
  by_cases hlt : r < x.src.length
  ·have f6 : ((r : Int) < (x.src.length : Int)) = True:= eq_true (by omega)
   rw [if_pos hlt]
   refine altX_of ?_ (altX_of ?_ altX_non)
   ·simp only [go_sem]
    refine call0a_of ht rfl hC ?_
    simp only [go_sem]
    refine altX_of ?_ altX_non
    simp only [go_sem,List.length_map,hr,f6,decide_true,g2]
   ·simp only [go_sem,List.length_map]
    refine altX_of ?_ altX_non
    simp only [go_sem]
    refine call0a_of ht rfl hC ?_
    simp only [go_sem,hr,f6,decide_true,g2]
  ·have f6 : ((r : Int) < (x.src.length : Int)) = False:= eq_false (by omega)
   rw [if_neg hlt]
   refine altX_of ?_ (altX_of ?_ altX_non)
   ·simp only [go_sem]
    refine call0a_of ht rfl hC ?_
    simp only [go_sem]
    refine altX_of ?_ altX_non
    simp only [go_sem,List.length_map,hr,f6,decide_false]
   ·simp only [go_sem,List.length_map]
    refine altX_of ?_ altX_non
    simp only [go_sem]
    refine call0a_of ht rfl hC ?_
    simp only [go_sem,hr,f6,decide_false]
end Go.Proofs.YtnndbbmidoidpaaGreatDoor.VL
end

section
set_option maxHeartbeats 4000000
namespace Go.Proofs.YtnndbbmidoidpaaGreatDoor.VL
open Go.RowKit Go.Proofs
def fnN : Nat → FuncId
 | 0 => f_q70
 | 1 => f_q71
 | 2 => f_q72
 | 3 => f_q73
 | 4 => f_q74
 | 5 => f_q75
 | _ => f_q76
theorem W_at (w : NW) (h : w.OK) (k i : Nat) (hi : i < lenN w k) : AC Tryz.prog (fnN k) [.agg (netV w),.lit (.int .i64 (i : Nat))] (amiss (vAt w k i)):= by
 match k,hi with
 | 0,hi =>
  have e:= List.getElem?_eq_getElem (show i < w.rts.length from hi)
  have:= W_router w h i _ e
  simpa only [vAt,fnN,e,Option.bind_some] using this
 | 1,hi =>
  have e:= List.getElem?_eq_getElem (show i < w.lks.length from hi)
  have:= W_link w h i _ e
  simpa only [vAt,fnN,e,Option.bind_some] using this
 | 2,hi =>
  have e:= List.getElem?_eq_getElem (show i < w.pts.length from hi)
  have:= W_port w h i _ e
  simpa only [vAt,fnN,e,Option.bind_some] using this
 | 3,hi =>
  have e:= List.getElem?_eq_getElem (show i < w.ros.length from hi)
  have:= W_route w h i _ e
  simpa only [vAt,fnN,e,Option.bind_some] using this
 | 4,hi =>
  have e:= List.getElem?_eq_getElem (show i < w.rgs.length from hi)
  have:= W_ranges w h i _ e
  simpa only [vAt,fnN,e,Option.bind_some] using this
 | 5,hi =>
  have e:= List.getElem?_eq_getElem (show i < w.scs.length from hi)
  have:= W_source w h i _ e
  simpa only [vAt,fnN,e,Option.bind_some] using this
 | k + 6,hi =>
  have e:= List.getElem?_eq_getElem (show i < w.mbs.length from hi)
  have:= C_member w h i _ e
  simpa only [vAt,fnN,e,Option.bind_some] using this
def rowK (w : NW) (k : Nat) : AV:= .agg [.lit (.int .i64 (lenN w k : Nat)),.lit (.int .i64 (mostN k : Nat)),.clo (.func (fnN k)) [.agg (netV w)] []]
def rowsV (w : NW) : List AV:= [rowK w 0,rowK w 1,rowK w 2,rowK w 3,rowK w 4,rowK w 5,rowK w 6]
theorem rowsV_get (w : NW) (k : Nat) (h : k < 7) : (rowsV w)[k]? = some (.agg [.lit (.int .i64 (lenN w k : Nat)),.lit (.int .i64 (mostN k : Nat)),.clo (.func (fnN k)) [.agg (netV w)] []]):= by
 match k,h with
 | 0,_ => rfl
 | 1,_ => rfl
 | 2,_ => rfl
 | 3,_ => rfl
 | 4,_ => rfl
 | 5,_ => rfl
 | 6,_ => rfl
 | k + 7,h => omega
theorem low_net (C : Nat → Option (List AV)) (n : Nat) (w : NW) : mapO (lower C (n + 1)) (netV w) = some (netV w):= by
 simp only [netV,mapO_cons,mapO_nil,lower_sl,lowTok_none,catO_some]
theorem lenN_lt (w : NW) (h : w.OK) (k : Nat) : lenN w k < 9223372036854775808:= by
 unfold lenN
 split
 ·exact h.l1
 ·exact h.l2
 ·exact h.l3
 ·exact h.l4
 ·exact h.l5
 ·exact h.l6
 ·exact h.l7
theorem scanK_hit (w : NW) (k n g : Nat) (h : vList w k 0 = some g) : scanK w (n + 1) k = some g:= by simp only [scanK,h]
theorem scanK_go (w : NW) (k n : Nat) (h : vList w k 0 = none) : scanK w (n + 1) k = scanK w n (k + 1):= by simp only [scanK,h]
theorem C_cValid (w : NW) (h : w.OK) : AC Tryz.prog f_q35 [.agg (netV w)] (amiss (vNet w)):= by
 refine ac_q35 ?_ (Nat.le_add_left 1 _) (by cases vNet w <;> rfl)
 have gm : (0 ∈ GS) = True:= eq_true (by simp [GS])
 simp only [go_sem,c_q35,netV,List.length_map]
 refine aw_loop (fun m E => ∃ k : Nat,k + m = 7 ∧ scanK w m k = vNet w ∧ E = mkE [(52,.sl (.own [52]) 3 (rowsV w)),(53,.lit (.int .i64 7)),(54,.lit (.int .i64 (k : Nat)))] [(1,netV w),(3,netV w)]) 7 ?_ ?_
 ·exact ⟨0,rfl,rfl,by simp only [go_sem]; rfl⟩
 ·rintro m _ ⟨k,hk,hs,rfl⟩
  by_cases hk7 : k < 7
  ·have f1 : ((k : Int) < 7) = True:= eq_true (by omega)
   have hw:= wrap_succ k (by omega)
   obtain ⟨m,rfl⟩ : ∃ m',m = m' + 1:= ⟨m - 1,by omega⟩
   have hr:= fun cs => avRow_some 3 (.own [52]) (AV.agg cs) rfl
   have hlen:= lenN_lt w h k
   simp only [go_sem,f1,decide_true,rowsV_get w k hk7,hr,Int.toNat_natCast,Int.natCast_nonneg]
   refine aw_loop (fun q E => ∃ i : Nat,i + q = lenN w k ∧ vList w k i = vList w k 0 ∧ E = mkE [(5,.lp 5 0),(52,.sl (.own [52]) 3 (rowsV w)),(53,.lit (.int .i64 7)),(54,.lit (.int .i64 (k : Nat))),(59,.lit (.int .i64 (lenN w k : Nat))),(60,.lit (.int .i64 (i : Nat)))] [(1,netV w),(3,netV w),(5,[.lit (.int .i64 (lenN w k : Nat)),.lit (.int .i64 (mostN k : Nat)),.clo (.func (fnN k)) [.agg (netV w)] []])]) (lenN w k) ?_ ?_
   ·exact ⟨0,by omega,rfl,by simp only [go_sem,Int.natCast_zero]⟩
   ·rintro q _ ⟨i,hi,hvi,rfl⟩
    by_cases hil : i < lenN w k
    ·have f2 : ((i : Int) < (lenN w k : Int)) = True:= eq_true (by omega)
     have hw2:= wrap_succ i (by omega)
     by_cases hm : mostN k ≤ i
     ·have f3 : ((mostN k : Int) ≤ (i : Int)) = True:= eq_true (by omega)
      have e : vNet w = some 0:= by rw [← hs]; exact scanK_hit w k m _ (by rw [← hvi]; exact vList_many w k i hil hm)
      simp only [go_sem,f2,f3,decide_true,gm,e,amiss]
     ·have f3 : ((mostN k : Int) ≤ (i : Int)) = False:= eq_false (by omega)
      simp only [go_sem,f2,f3,decide_true,decide_false,low_net]
      refine callX_of (W_at w h k i hil) ?_
      cases hva : vAt w k i with
      | some g =>
       have e : vNet w = some g:= by rw [← hs]; exact scanK_hit w k m _ (by rw [← hvi]; exact vList_some w k i g hil (by omega) hva)
       simp only [go_sem,amiss,e]
      | none =>
       simp only [go_sem,amiss,hw2]
       exact ⟨q - 1,by omega,i + 1,by omega,by rw [← hvi]; exact (vList_none w k i hil (by omega) hva).symm,rfl⟩
    ·have f2 : ((i : Int) < (lenN w k : Int)) = False:= eq_false (by omega)
     simp only [go_sem,f2,decide_false,hw]
     exact ⟨m,by omega,k + 1,by omega,by rw [← hs]; exact (scanK_go w k m (by rw [← hvi]; exact vList_end w k i (by omega))).symm,rfl⟩
  ·have f1 : ((k : Int) < 7) = False:= eq_false (by omega)
   obtain rfl : m = 0:= by omega
   rw [← hs]
   simp only [go_sem,f1,decide_false,scanK,amiss]
end Go.Proofs.YtnndbbmidoidpaaGreatDoor.VL
end

section
set_option maxHeartbeats 4000000
namespace Go.Proofs.YtnndbbmidoidpaaGreatDoor.VL
open Go.RowKit Go.Proofs
theorem any_take_none {α : Type} {p : α → Bool} {l : List α} {i : Nat} (h : ∀ (j : Nat) (y : α),j < i → l[j]? = some y → p y = false) : (l.take i).any p = false:= by
 rw [List.any_eq_false]
 intro x hx
 obtain ⟨j,hj,e⟩:= List.mem_iff_getElem.1 hx
 simp only [List.length_take] at hj
 rw [List.getElem_take] at e
 simp [h j x (by omega) (by rw [List.getElem?_eq_getElem (by omega),e])]
theorem any_take_some {α : Type} {p : α → Bool} {l : List α} {i k : Nat} {x : α} (hk : k < i) (hx : l[k]? = some x) (hp : p x = true) : (l.take i).any p = true:= by
 rw [List.any_eq_true]
 refine ⟨x,?_,hp⟩
 obtain ⟨h1,h2⟩:= List.getElem?_eq_some_iff.1 hx
 exact List.mem_iff_getElem.2 ⟨k,by simp; omega,by rw [List.getElem_take]; exact h2⟩
theorem C_rGroups : AC Tryz.prog f_q66 [] (avPfx 3758096384 4):= by
 refine ac_q66 ?_ (Nat.zero_le _)
 simp only [go_sem,c_q66,avPfx]
 rfl
theorem rt_len (w : NW) : (w.net.rts.getD []).length = w.rts.length:= rfl
theorem lk_len (w : NW) : (w.net.lks.getD []).length = w.lks.length:= rfl
theorem pt_net (w : NW) : w.net.pts.getD [] = w.pts:= rfl
theorem one_net (w : NW) : (netV w).all AV.one = true:= rfl
theorem len_net (w : NW) : (netV w).length = 7:= rfl
theorem take_net (w : NW) : (netV w).take 7 = netV w:= rfl
theorem ld_drop (l : List AV) (k : Nat) : aval.ld false 1 (l.drop k) = l[k]?:= by simp [aval.ld]
end Go.Proofs.YtnndbbmidoidpaaGreatDoor.VL
end

section
set_option maxHeartbeats 4000000
namespace Go.Proofs.YtnndbbmidoidpaaGreatDoor.VL
open Go.RowKit Go.Proofs
theorem rep_own_none {E : RE} {τ : List Nat} {e : Nat} {rows : List AV} {v : Value} (h : Rep E (.sl (.own τ) e rows) v) : Rep E (.sl .none e rows) v:= by
 simp only [Rep] at h ⊢
 obtain ⟨A,cap,vs,rfl,h1,h2,h3,h4,h5⟩:= h
 refine ⟨A,cap,vs,rfl,h1,h2,h3,h4,fun hne => ?_⟩
 rcases h5 with ⟨_,h0⟩ | ⟨g,cur,ty,ha,hat,_⟩
 ·exact absurd (List.eq_nil_of_length_eq_zero (by omega)) hne
 ·exact ⟨g,0,ha,hat⟩
theorem K0_Router (t : Tok) (e : Nat) : AC Tryz.prog f_q92 [.sl t e []] (.sl .none 2 []):= by
 refine AC_hdr fun A cap => ?_
 cases A with
 | none =>
  refine AC_weak (r:= .sl .nil 0 []) (ac_q92 ?_ (Nat.le_add_left 1 _)) (fun E v h => rep_sl0 h)
  simp only [go_sem,c_q92,isNone_none]
 | some ad =>
  refine AC_weak (r:= .sl (.fr [7]) 2 []) (ac_q92 ?_ (Nat.le_add_left 1 _)) (fun E v h => rep_sl0 h)
  simp only [go_sem,c_q92,isNone_some]
  refine shiftX_of (VS.lit0 (k:= 0) (e:= 2) .none rfl (.inl rfl)) ?_
  rintro _ rfl
  simp only [mkE_put,go_sem]
  refine bslX_fr ?_
  have e : ∀ s c,avApp 2 24 [] 7 s c (.sl (.fr [5]) 2 []) (.sl .none 2 []) = _:= fun s c => avApp_fr 2 24 [] [5] [] [] .none (by decide) (by decide) rfl
  simp only [go_sem,e,List.append_nil]
theorem K_Router (rows : List AV) (hl : rows.length ≤ 4294967296) : AC Tryz.prog f_q92 [.sl .none 2 rows] (.sl .none 2 rows):= by
 by_cases h0 : rows = []
 ·subst h0
  exact K0_Router .none 2
 refine AC_weak (r:= .sl (.own [7]) 2 rows) (ac_q92 ?_ (Nat.le_add_left 1 _)) (fun E v h => rep_own_none h)
 simp only [go_sem,c_q92,avEqs_ne _ _ _ h0]
 refine shiftX_refl ?_
 simp only [go_sem]
 refine bslX_own ?_
 have e : ∀ s c,avApp 2 24 [] 7 s c (.sl (.own [5]) 2 []) (.sl .none 2 rows) = _:= fun s c => avApp_own 2 24 [] [5] [] rows .none (by simpa using hl) (by decide) rfl
 simp only [go_sem,e,List.nil_append]
theorem K0_Link (t : Tok) (e : Nat) : AC Tryz.prog f_q93 [.sl t e []] (.sl .none 3 []):= by
 refine AC_hdr fun A cap => ?_
 cases A with
 | none =>
  refine AC_weak (r:= .sl .nil 0 []) (ac_q93 ?_ (Nat.le_add_left 1 _)) (fun E v h => rep_sl0 h)
  simp only [go_sem,c_q93,isNone_none]
 | some ad =>
  refine AC_weak (r:= .sl (.fr [7]) 3 []) (ac_q93 ?_ (Nat.le_add_left 1 _)) (fun E v h => rep_sl0 h)
  simp only [go_sem,c_q93,isNone_some]
  refine shiftX_of (VS.lit0 (k:= 0) (e:= 3) .none rfl (.inl rfl)) ?_
  rintro _ rfl
  simp only [mkE_put,go_sem]
  refine bslX_fr ?_
  have e : ∀ s c,avApp 3 32 [] 7 s c (.sl (.fr [5]) 3 []) (.sl .none 3 []) = _:= fun s c => avApp_fr 3 32 [] [5] [] [] .none (by decide) (by decide) rfl
  simp only [go_sem,e,List.append_nil]
theorem K_Link (rows : List AV) (hl : rows.length ≤ 4294967296) : AC Tryz.prog f_q93 [.sl .none 3 rows] (.sl .none 3 rows):= by
 by_cases h0 : rows = []
 ·subst h0
  exact K0_Link .none 3
 refine AC_weak (r:= .sl (.own [7]) 3 rows) (ac_q93 ?_ (Nat.le_add_left 1 _)) (fun E v h => rep_own_none h)
 simp only [go_sem,c_q93,avEqs_ne _ _ _ h0]
 refine shiftX_refl ?_
 simp only [go_sem]
 refine bslX_own ?_
 have e : ∀ s c,avApp 3 32 [] 7 s c (.sl (.own [5]) 3 []) (.sl .none 3 rows) = _:= fun s c => avApp_own 3 32 [] [5] [] rows .none (by simpa using hl) (by decide) rfl
 simp only [go_sem,e,List.nil_append]
theorem K0_Port (t : Tok) (e : Nat) : AC Tryz.prog f_q94 [.sl t e []] (.sl .none 3 []):= by
 refine AC_hdr fun A cap => ?_
 cases A with
 | none =>
  refine AC_weak (r:= .sl .nil 0 []) (ac_q94 ?_ (Nat.le_add_left 1 _)) (fun E v h => rep_sl0 h)
  simp only [go_sem,c_q94,isNone_none]
 | some ad =>
  refine AC_weak (r:= .sl (.fr [7]) 3 []) (ac_q94 ?_ (Nat.le_add_left 1 _)) (fun E v h => rep_sl0 h)
  simp only [go_sem,c_q94,isNone_some]
  refine shiftX_of (VS.lit0 (k:= 0) (e:= 3) .none rfl (.inl rfl)) ?_
  rintro _ rfl
  simp only [mkE_put,go_sem]
  refine bslX_fr ?_
  have e : ∀ s c,avApp 3 24 [] 7 s c (.sl (.fr [5]) 3 []) (.sl .none 3 []) = _:= fun s c => avApp_fr 3 24 [] [5] [] [] .none (by decide) (by decide) rfl
  simp only [go_sem,e,List.append_nil]
theorem K_Port (rows : List AV) (hl : rows.length ≤ 4294967296) : AC Tryz.prog f_q94 [.sl .none 3 rows] (.sl .none 3 rows):= by
 by_cases h0 : rows = []
 ·subst h0
  exact K0_Port .none 3
 refine AC_weak (r:= .sl (.own [7]) 3 rows) (ac_q94 ?_ (Nat.le_add_left 1 _)) (fun E v h => rep_own_none h)
 simp only [go_sem,c_q94,avEqs_ne _ _ _ h0]
 refine shiftX_refl ?_
 simp only [go_sem]
 refine bslX_own ?_
 have e : ∀ s c,avApp 3 24 [] 7 s c (.sl (.own [5]) 3 []) (.sl .none 3 rows) = _:= fun s c => avApp_own 3 24 [] [5] [] rows .none (by simpa using hl) (by decide) rfl
 simp only [go_sem,e,List.nil_append]
theorem K0_Route (t : Tok) (e : Nat) : AC Tryz.prog f_q95 [.sl t e []] (.sl .none 5 []):= by
 refine AC_hdr fun A cap => ?_
 cases A with
 | none =>
  refine AC_weak (r:= .sl .nil 0 []) (ac_q95 ?_ (Nat.le_add_left 1 _)) (fun E v h => rep_sl0 h)
  simp only [go_sem,c_q95,isNone_none]
 | some ad =>
  refine AC_weak (r:= .sl (.fr [7]) 5 []) (ac_q95 ?_ (Nat.le_add_left 1 _)) (fun E v h => rep_sl0 h)
  simp only [go_sem,c_q95,isNone_some]
  refine shiftX_of (VS.lit0 (k:= 0) (e:= 5) .none rfl (.inl rfl)) ?_
  rintro _ rfl
  simp only [mkE_put,go_sem]
  refine bslX_fr ?_
  have e : ∀ s c,avApp 5 40 [] 7 s c (.sl (.fr [5]) 5 []) (.sl .none 5 []) = _:= fun s c => avApp_fr 5 40 [] [5] [] [] .none (by decide) (by decide) rfl
  simp only [go_sem,e,List.append_nil]
theorem K_Route (rows : List AV) (hl : rows.length ≤ 4294967296) : AC Tryz.prog f_q95 [.sl .none 5 rows] (.sl .none 5 rows):= by
 by_cases h0 : rows = []
 ·subst h0
  exact K0_Route .none 5
 refine AC_weak (r:= .sl (.own [7]) 5 rows) (ac_q95 ?_ (Nat.le_add_left 1 _)) (fun E v h => rep_own_none h)
 simp only [go_sem,c_q95,avEqs_ne _ _ _ h0]
 refine shiftX_refl ?_
 simp only [go_sem]
 refine bslX_own ?_
 have e : ∀ s c,avApp 5 40 [] 7 s c (.sl (.own [5]) 5 []) (.sl .none 5 rows) = _:= fun s c => avApp_own 5 40 [] [5] [] rows .none (by simpa using hl) (by decide) rfl
 simp only [go_sem,e,List.nil_append]
theorem K0_Range (t : Tok) (e : Nat) : AC Tryz.prog f_q96 [.sl t e []] (.sl .none 3 []):= by
 refine AC_hdr fun A cap => ?_
 cases A with
 | none =>
  refine AC_weak (r:= .sl .nil 0 []) (ac_q96 ?_ (Nat.le_add_left 1 _)) (fun E v h => rep_sl0 h)
  simp only [go_sem,c_q96,isNone_none]
 | some ad =>
  refine AC_weak (r:= .sl (.fr [7]) 3 []) (ac_q96 ?_ (Nat.le_add_left 1 _)) (fun E v h => rep_sl0 h)
  simp only [go_sem,c_q96,isNone_some]
  refine shiftX_of (VS.lit0 (k:= 0) (e:= 3) .none rfl (.inl rfl)) ?_
  rintro _ rfl
  simp only [mkE_put,go_sem]
  refine bslX_fr ?_
  have e : ∀ s c,avApp 3 24 [] 7 s c (.sl (.fr [5]) 3 []) (.sl .none 3 []) = _:= fun s c => avApp_fr 3 24 [] [5] [] [] .none (by decide) (by decide) rfl
  simp only [go_sem,e,List.append_nil]
theorem K_Range (rows : List AV) (hl : rows.length ≤ 4294967296) : AC Tryz.prog f_q96 [.sl .none 3 rows] (.sl .none 3 rows):= by
 by_cases h0 : rows = []
 ·subst h0
  exact K0_Range .none 3
 refine AC_weak (r:= .sl (.own [7]) 3 rows) (ac_q96 ?_ (Nat.le_add_left 1 _)) (fun E v h => rep_own_none h)
 simp only [go_sem,c_q96,avEqs_ne _ _ _ h0]
 refine shiftX_refl ?_
 simp only [go_sem]
 refine bslX_own ?_
 have e : ∀ s c,avApp 3 24 [] 7 s c (.sl (.own [5]) 3 []) (.sl .none 3 rows) = _:= fun s c => avApp_own 3 24 [] [5] [] rows .none (by simpa using hl) (by decide) rfl
 simp only [go_sem,e,List.nil_append]
theorem K0_Source (t : Tok) (e : Nat) : AC Tryz.prog f_q97 [.sl t e []] (.sl .none 3 []):= by
 refine AC_hdr fun A cap => ?_
 cases A with
 | none =>
  refine AC_weak (r:= .sl .nil 0 []) (ac_q97 ?_ (Nat.le_add_left 1 _)) (fun E v h => rep_sl0 h)
  simp only [go_sem,c_q97,isNone_none]
 | some ad =>
  refine AC_weak (r:= .sl (.fr [7]) 3 []) (ac_q97 ?_ (Nat.le_add_left 1 _)) (fun E v h => rep_sl0 h)
  simp only [go_sem,c_q97,isNone_some]
  refine shiftX_of (VS.lit0 (k:= 0) (e:= 3) .none rfl (.inl rfl)) ?_
  rintro _ rfl
  simp only [mkE_put,go_sem]
  refine bslX_fr ?_
  have e : ∀ s c,avApp 3 16 [] 7 s c (.sl (.fr [5]) 3 []) (.sl .none 3 []) = _:= fun s c => avApp_fr 3 16 [] [5] [] [] .none (by decide) (by decide) rfl
  simp only [go_sem,e,List.append_nil]
theorem K_Source (rows : List AV) (hl : rows.length ≤ 4294967296) : AC Tryz.prog f_q97 [.sl .none 3 rows] (.sl .none 3 rows):= by
 by_cases h0 : rows = []
 ·subst h0
  exact K0_Source .none 3
 refine AC_weak (r:= .sl (.own [7]) 3 rows) (ac_q97 ?_ (Nat.le_add_left 1 _)) (fun E v h => rep_own_none h)
 simp only [go_sem,c_q97,avEqs_ne _ _ _ h0]
 refine shiftX_refl ?_
 simp only [go_sem]
 refine bslX_own ?_
 have e : ∀ s c,avApp 3 16 [] 7 s c (.sl (.own [5]) 3 []) (.sl .none 3 rows) = _:= fun s c => avApp_own 3 16 [] [5] [] rows .none (by simpa using hl) (by decide) rfl
 simp only [go_sem,e,List.nil_append]
theorem K0_Member (t : Tok) (e : Nat) : AC Tryz.prog f_q98 [.sl t e []] (.sl .none 4 []):= by
 refine AC_hdr fun A cap => ?_
 cases A with
 | none =>
  refine AC_weak (r:= .sl .nil 0 []) (ac_q98 ?_ (Nat.le_add_left 1 _)) (fun E v h => rep_sl0 h)
  simp only [go_sem,c_q98,isNone_none]
 | some ad =>
  refine AC_weak (r:= .sl (.fr [7]) 4 []) (ac_q98 ?_ (Nat.le_add_left 1 _)) (fun E v h => rep_sl0 h)
  simp only [go_sem,c_q98,isNone_some]
  refine shiftX_of (VS.lit0 (k:= 0) (e:= 4) .none rfl (.inl rfl)) ?_
  rintro _ rfl
  simp only [mkE_put,go_sem]
  refine bslX_fr ?_
  have e : ∀ s c,avApp 4 40 [] 7 s c (.sl (.fr [5]) 4 []) (.sl .none 4 []) = _:= fun s c => avApp_fr 4 40 [] [5] [] [] .none (by decide) (by decide) rfl
  simp only [go_sem,e,List.append_nil]
theorem KF_Member (rows : List AV) (h0 : rows ≠ []) (hl : rows.length ≤ 4294967296) : AC Tryz.prog f_q98 [.sl .none 4 rows] (.sl (.fr [7]) 4 rows):= by
 refine ac_q98 ?_ (Nat.le_add_left 1 _)
 simp only [go_sem,c_q98,avEqs_ne _ _ _ h0]
 refine shiftX_refl ?_
 simp only [go_sem]
 refine bslX_fr ?_
 have e : ∀ s c,avApp 4 40 [] 7 s c (.sl (.fr [5]) 4 []) (.sl .none 4 rows) = _:= fun s c => avApp_fr 4 40 [] [5] [] rows .none (by simpa using hl) (by decide) rfl
 simp only [go_sem,e,List.nil_append]
theorem K0_Int (t : Tok) (e : Nat) : AC Tryz.prog f_q109 [.sl t e []] (.sl .none 1 []):= by
 refine AC_hdr fun A cap => ?_
 cases A with
 | none =>
  refine AC_weak (r:= .sl .nil 0 []) (ac_q109 ?_ (Nat.le_add_left 1 _)) (fun E v h => rep_sl0 h)
  simp only [go_sem,c_q109,isNone_none]
 | some ad =>
  refine AC_weak (r:= .sl (.fr [7]) 1 []) (ac_q109 ?_ (Nat.le_add_left 1 _)) (fun E v h => rep_sl0 h)
  simp only [go_sem,c_q109,isNone_some]
  refine shiftX_of (VS.lit0 (k:= 0) (e:= 1) .none rfl (.inl rfl)) ?_
  rintro _ rfl
  simp only [mkE_put,go_sem]
  refine bslX_fr ?_
  have e : ∀ s c,avApp 1 8 [] 7 s c (.sl (.fr [5]) 1 []) (.sl .none 1 []) = _:= fun s c => avApp_fr 1 8 [] [5] [] [] .none (by decide) (by decide) rfl
  simp only [go_sem,e,List.append_nil]
theorem KF_Int (rows : List AV) (h0 : rows ≠ []) (hl : rows.length ≤ 4294967296) : AC Tryz.prog f_q109 [.sl .none 1 rows] (.sl (.fr [7]) 1 rows):= by
 refine ac_q109 ?_ (Nat.le_add_left 1 _)
 simp only [go_sem,c_q109,avEqs_ne _ _ _ h0]
 refine shiftX_refl ?_
 simp only [go_sem]
 refine bslX_fr ?_
 have e : ∀ s c,avApp 1 8 [] 7 s c (.sl (.fr [5]) 1 []) (.sl .none 1 rows) = _:= fun s c => avApp_fr 1 8 [] [5] [] rows .none (by simpa using hl) (by decide) rfl
 simp only [go_sem,e,List.nil_append]
theorem K_Int (rows : List AV) (hl : rows.length ≤ 4294967296) : AC Tryz.prog f_q109 [.sl .none 1 rows] (.sl .none 1 rows):= by
 by_cases h0 : rows = []
 ·subst h0
  exact K0_Int .none 1
 refine AC_weak (r:= .sl (.own [7]) 1 rows) (ac_q109 ?_ (Nat.le_add_left 1 _)) (fun E v h => rep_own_none h)
 simp only [go_sem,c_q109,avEqs_ne _ _ _ h0]
 refine shiftX_refl ?_
 simp only [go_sem]
 refine bslX_own ?_
 have e : ∀ s c,avApp 1 8 [] 7 s c (.sl (.own [5]) 1 []) (.sl .none 1 rows) = _:= fun s c => avApp_own 1 8 [] [5] [] rows .none (by simpa using hl) (by decide) rfl
 simp only [go_sem,e,List.nil_append]
theorem K0_Addr (t : Tok) (e : Nat) : AC Tryz.prog f_q51 [.sl t e []] (.sl .none 1 []):= by
 refine AC_hdr fun A cap => ?_
 cases A with
 | none =>
  refine AC_weak (r:= .sl .nil 0 []) (ac_q51 ?_ (Nat.le_add_left 1 _)) (fun E v h => rep_sl0 h)
  simp only [go_sem,c_q51,isNone_none]
 | some ad =>
  refine AC_weak (r:= .sl (.fr [7]) 1 []) (ac_q51 ?_ (Nat.le_add_left 1 _)) (fun E v h => rep_sl0 h)
  simp only [go_sem,c_q51,isNone_some]
  refine shiftX_of (VS.lit0 (k:= 0) (e:= 1) .none rfl (.inl rfl)) ?_
  rintro _ rfl
  simp only [mkE_put,go_sem]
  refine bslX_fr ?_
  have e : ∀ s c,avApp 1 4 [] 7 s c (.sl (.fr [5]) 1 []) (.sl .none 1 []) = _:= fun s c => avApp_fr 1 4 [] [5] [] [] .none (by decide) (by decide) rfl
  simp only [go_sem,e,List.append_nil]
theorem K_Addr (rows : List AV) (hl : rows.length ≤ 4294967296) : AC Tryz.prog f_q51 [.sl .none 1 rows] (.sl .none 1 rows):= by
 by_cases h0 : rows = []
 ·subst h0
  exact K0_Addr .none 1
 refine AC_weak (r:= .sl (.own [7]) 1 rows) (ac_q51 ?_ (Nat.le_add_left 1 _)) (fun E v h => rep_own_none h)
 simp only [go_sem,c_q51,avEqs_ne _ _ _ h0]
 refine shiftX_refl ?_
 simp only [go_sem]
 refine bslX_own ?_
 have e : ∀ s c,avApp 1 4 [] 7 s c (.sl (.own [5]) 1 []) (.sl .none 1 rows) = _:= fun s c => avApp_own 1 4 [] [5] [] rows .none (by simpa using hl) (by decide) rfl
 simp only [go_sem,e,List.nil_append]
end Go.Proofs.YtnndbbmidoidpaaGreatDoor.VL
end

section
set_option maxHeartbeats 4000000
namespace Go.Proofs.YtnndbbmidoidpaaGreatDoor.VL
open Go.RowKit Go.Proofs
structure NW.Fit (w : NW) : Prop where
 l1 : w.rts.length ≤ 4294967296
 l2 : w.lks.length ≤ 4294967296
 l3 : w.pts.length ≤ 4294967296
 l4 : w.ros.length ≤ 4294967296
 l5 : w.rgs.length ≤ 4294967296
 l6 : w.scs.length ≤ 4294967296
 l7 : w.mbs.length ≤ 4294967296
 l8 : ∀ x ∈ w.mbs,x.src.length ≤ 4294967296
theorem C_cClone0 (w : NW) (h : w.Fit) (h0 : w.mbs = []) : AC Tryz.prog f_q41 [.agg (netV w)] (.agg (netV w)):= by
 refine ac_q41 ?_ (Nat.le_add_left 1 _)
 simp only [go_sem,c_q41,netV,h0,List.map_nil]
 refine callX_of (K_Router _ (by simpa using h.l1)) ?_
 simp only [go_sem]
 refine callX_of (K_Link _ (by simpa using h.l2)) ?_
 simp only [go_sem]
 refine callX_of (K_Port _ (by simpa using h.l3)) ?_
 simp only [go_sem]
 refine callX_of (K_Route _ (by simpa using h.l4)) ?_
 simp only [go_sem]
 refine callX_of (K_Range _ (by simpa using h.l5)) ?_
 simp only [go_sem]
 refine callX_of (K_Source _ (by simpa using h.l6)) ?_
 simp only [go_sem]
 refine callX_of (K0_Member _ _) ?_
 simp only [go_sem]
 refine shiftX_refl ?_
 simp only [go_sem,List.length_nil,Int.natCast_zero]
 refine aw_loop (fun m E => E = mkE [(2,.lp 2 0),(3,.lp 3 0),(29,.lit (.int .i64 0)),(30,.lit (.int .i64 0))] [(1,netV w),(2,[.sl .nil 0 [],.sl .nil 0 [],.sl .nil 0 [],.sl .nil 0 [],.sl .nil 0 [],.sl .nil 0 [],.sl .nil 0 []]),(3,netV w)]) 0 ?_ ?_
 ·simp only [go_sem,netV,h0,List.map_nil]
 ·rintro m _ rfl
  simp only [go_sem,Int.lt_irrefl,decide_false,netV,h0,List.map_nil]
theorem set_cell {s : List (Nat × AV)} {c : List (Nat × List AV)} {k i : Nat} {x : AV} {cs : List AV} (h : getC c k = some cs) : (mkE s c).set (.cell k i) x = mkE s (putA c k (cs.set i x)):= by
 simp only [Env.set,mkE_c,h,mkE_putc]
def mbCells (x : NM) : List AV:= [.lit (.int .i64 x.lk),avU x.g,.lit (.bool x.only),.sl .none 1 (x.src.map avU)]
theorem mb_cells : ∀ l : List NM,(l.map avMb).flatMap cellsOf = l.flatMap mbCells
 | [] => rfl
 | x :: l => by simp only [List.map_cons,List.flatMap_cons,mb_cells l]; rfl
theorem mb_len : ∀ l : List NM,(l.flatMap mbCells).length = l.length * 4
 | [] => rfl
 | x :: l => by simp only [List.flatMap_cons,List.length_append,mb_len l,List.length_cons,mbCells,List.length_nil]; omega
theorem mb_get : ∀ (l : List NM) (i : Nat) (x : NM) (rest : List AV),l[i]? = some x → (l.flatMap mbCells ++ rest)[i * 4 + 3]? = some (.sl .none 1 (x.src.map avU))
 | [],i,x,rest,h => by simp at h
 | y :: l,0,x,rest,h => by
  simp only [List.getElem?_cons_zero,Option.some.injEq] at h
  subst h
  rfl
 | y :: l,i + 1,x,rest,h => by
  simp only [List.getElem?_cons_succ] at h
  have:= mb_get l i x rest h
  simp only [List.flatMap_cons,List.append_assoc]
  rw [List.getElem?_append_right (by simp [mbCells]; omega)]
  rw [← this]
  congr 1
  simp only [mbCells,List.length_cons,List.length_nil]
  omega
theorem chunk_mb : ∀ (l : List NM) (rest : List AV),chunk true 4 l.length (l.flatMap mbCells ++ rest) = l.map avMb
 | [],rest => rfl
 | x :: l,rest => by
  simp only [List.flatMap_cons,List.length_cons,List.map_cons,chunk,List.append_assoc]
  have:= chunk_mb l rest
  rw [show mbCells x ++ (l.flatMap mbCells ++ rest) = [AV.lit (.int .i64 x.lk),avU x.g,AV.lit (.bool x.only),AV.sl .none 1 (x.src.map avU)] ++ (l.flatMap mbCells ++ rest) from rfl]
  simp only [List.cons_append,List.nil_append,List.take_succ_cons,List.take_zero,List.drop_succ_cons,List.drop_zero,this]
  rfl
theorem put_same {cs : List AV} {o : Nat} {x : AV} (h : cs[o]? = some x) : cs.take o ++ [x] ++ cs.drop (o + 1) = cs:= by
 obtain ⟨h1,h2⟩:= List.getElem?_eq_some_iff.1 h
 have:= List.set_eq_take_append_cons_drop (l:= cs) (i:= o) (a:= x)
 rw [if_pos h1] at this
 rw [List.append_assoc,List.singleton_append,← this,← h2,List.set_getElem_self]
theorem C_cClone (w : NW) (h : w.Fit) : AC Tryz.prog f_q41 [.agg (netV w)] (.agg (netV w)):= by
 by_cases h0 : w.mbs = []
 ·exact C_cClone0 w h h0
 refine ac_q41 ?_ (Nat.le_add_left 1 _)
 simp only [go_sem,c_q41,netV]
 refine callX_of (K_Router _ (by simpa using h.l1)) ?_
 simp only [go_sem]
 refine callX_of (K_Link _ (by simpa using h.l2)) ?_
 simp only [go_sem]
 refine callX_of (K_Port _ (by simpa using h.l3)) ?_
 simp only [go_sem]
 refine callX_of (K_Route _ (by simpa using h.l4)) ?_
 simp only [go_sem]
 refine callX_of (K_Range _ (by simpa using h.l5)) ?_
 simp only [go_sem]
 refine callX_of (K_Source _ (by simpa using h.l6)) ?_
 simp only [go_sem]
 refine callX_of (KF_Member _ (by simpa using h0) (by simpa using h.l7)) ?_
 simp only [go_sem]
 refine shiftX_of (VS.adopt (p:= .cell 3 6) (g:= true) 900 rfl (by simpa using h0) (fun r hr => ?_) (by decide) rfl) ?_
 ·obtain ⟨n,_,rfl⟩:= List.mem_map.1 hr
  rfl
 rintro _ ⟨cap,j,hcap,rfl⟩
 rw [mb_cells]
 simp only [List.length_map] at hcap ⊢
 simp only [mkE_strip]
 rw [set_cell (cs:= [.sl .none 2 (w.rts.map avRouter),.sl .none 3 (w.lks.map avLink),.sl .none 3 (w.pts.map avPort),.sl .none 5 (w.ros.map avRoute),.sl .none 3 (w.rgs.map avRange),.sl .none 3 (w.scs.map avSource),.sl .gone 4 (w.mbs.map avMb)]) (by simp only [go_sem])]
 simp only [mkE_putc]
 generalize hrest : List.replicate j AV.dead = rest
 have hl7:= h.l7
 simp only [go_sem,List.set_cons_succ,List.set_cons_zero]
 refine aw_loop (fun m E => ∃ i : Nat,i + m = w.mbs.length ∧ E = mkE [(2,.lp 2 0),(3,.lp 3 0),(29,.lit (.int .i64 (w.mbs.length : Nat))),(30,.lit (.int .i64 (i : Nat)))] [(1,netV w),(2,[.sl .nil 0 [],.sl .nil 0 [],.sl .nil 0 [],.sl .nil 0 [],.sl .nil 0 [],.sl .nil 0 [],.sl .nil 0 []]),(3,[.sl .none 2 (w.rts.map avRouter),.sl .none 3 (w.lks.map avLink),.sl .none 3 (w.pts.map avPort),.sl .none 5 (w.ros.map avRoute),.sl .none 3 (w.rgs.map avRange),.sl .none 3 (w.scs.map avSource),.ml 900 0 w.mbs.length cap true 4]),(900,w.mbs.flatMap mbCells ++ rest)]) w.mbs.length ?_ ?_
 ·exact ⟨0,by omega,by simp only [go_sem,Int.natCast_zero]; rfl⟩
 ·rintro m _ ⟨i,hi,rfl⟩
  by_cases hil : i < w.mbs.length
  ·have f1 : ((i : Int) < (w.mbs.length : Int)) = True:= eq_true (by omega)
   obtain ⟨x,hx⟩ : ∃ x,w.mbs[i]? = some x:= ⟨w.mbs[i],List.getElem?_eq_getElem hil⟩
   have hw:= wrap_succ i (by omega)
   have hg:= mb_get w.mbs i x rest hx
   have hld : aval.ld false 1 ((w.mbs.flatMap mbCells ++ rest).drop (i * 4 + 3)) = some (.sl .none 1 (x.src.map avU)):= (ld_drop _ _).trans hg
   have hK:= K_Addr (x.src.map avU) (by simpa using h.l8 x (List.mem_of_getElem? hx))
   have hln : i * 4 + 3 + 1 ≤ (w.mbs.flatMap mbCells ++ rest).length:= by rw [List.length_append,mb_len]; omega
   have hps:= put_same hg
   simp only [go_sem,f1,decide_true,Int.toNat_natCast,Int.natCast_nonneg,Nat.zero_add,hld]
   refine callX_of hK ?_
   simp only [go_sem,f1,Int.toNat_natCast,Int.natCast_nonneg,Nat.zero_add,hln,hps,hw]
   exact ⟨m - 1,by omega,i + 1,by omega,rfl⟩
  ·obtain rfl : i = w.mbs.length:= by omega
   have f1 : ((w.mbs.length : Int) < (w.mbs.length : Int)) = False:= eq_false (by omega)
   have hret : ∀ C,retM C 6 0 w.mbs.length cap true 4 (some (w.mbs.flatMap mbCells ++ rest)) = some (.sl .none 4 (w.mbs.map avMb)):= by
    intro C
    rw [retM_some (l:= (w.mbs.flatMap mbCells ++ rest).take (w.mbs.length * 4)) 0 w.mbs.length cap true 4 _ ⟨by rw [List.length_append,mb_len]; omega,hcap,.inl rfl⟩ ?_,List.take_append_of_le_length (by rw [mb_len]; omega),List.take_of_length_le (by rw [mb_len]; omega)]
    ·have:= chunk_mb w.mbs []
     rw [List.append_nil] at this
     rw [this]
    ·rw [List.drop_zero]
     refine mapO_id fun y hy => ?_
     rw [List.take_append_of_le_length (by rw [mb_len]; omega)] at hy
     obtain ⟨z,_,hz⟩:= List.mem_flatMap.1 (List.mem_of_mem_take hy)
     simp only [mbCells,List.mem_cons,List.not_mem_nil,or_false] at hz
     rcases hz with rfl | rfl | rfl | rfl <;> rfl
   simp only [go_sem,f1,decide_false,hret]
end Go.Proofs.YtnndbbmidoidpaaGreatDoor.VL
end

section
set_option maxHeartbeats 4000000
namespace Go.Proofs.YtnndbbmidoidpaaGreatDoor.VL
open Go.RowKit Go.Proofs
def avI (n : Nat) : AV:= .lit (.int .i64 (n : Nat))
def idxK (q : Nat → Bool) (k : Nat) : List Nat:= (List.range k).filter q
theorem idxK_zero (q : Nat → Bool) : idxK q 0 = []:= rfl
theorem idxK_succ (q : Nat → Bool) (k : Nat) : idxK q (k + 1) = if q k = true then idxK q k ++ [k] else idxK q k:= by
 simp only [idxK,List.range_succ,List.filter_append,List.filter_cons,List.filter_nil]
 split <;> simp
theorem idxK_len (q : Nat → Bool) (k : Nat) : (idxK q k).length ≤ k:= by
 have:= List.length_filter_le q (List.range k)
 simpa [idxK] using this
def slI (τ : List Nat) (l : List Nat) : AV:= if l = [] then .sl .nil 0 [] else .sl (.own τ) 1 (l.map avI)
def rowsT (b : Nat) (f : Nat → List Nat) (n : Nat) : List AV:= (List.range n).map fun j => slI [b,j] (f j)
theorem rowsT_len (b : Nat) (f : Nat → List Nat) (n : Nat) : (rowsT b f n).length = n:= by simp [rowsT]
theorem rowsT_get (b : Nat) (f : Nat → List Nat) (n j : Nat) (h : j < n) : (rowsT b f n)[j]? = some (slI [b,j] (f j)):= by simp [rowsT,h]
theorem rowsT_nil (b : Nat) (n : Nat) : rowsT b (fun _ => []) n = List.replicate n (.sl .nil 0 []):= by
 rw [List.eq_replicate_iff]
 refine ⟨rowsT_len _ _ _,fun x hx => ?_⟩
 obtain ⟨j,_,rfl⟩:= List.mem_map.1 hx
 rfl
theorem rowsT_congr {b : Nat} {f g : Nat → List Nat} {n : Nat} (h : ∀ j,j < n → f j = g j) : rowsT b f n = rowsT b g n:= by
 refine List.map_congr_left fun j hj => ?_
 rw [h j (List.mem_range.1 hj)]
theorem relabL_map (τ τ' : List Nat) (l : List AV) : relabL τ τ' l = l.map (relab τ τ'):= by
 induction l with
 | nil => rfl
 | cons y ys ih => simp [relabL,ih]
theorem killL_map (n : Nat) (l : List AV) : killL n l = l.map (kill n):= by
 induction l with
 | nil => rfl
 | cons y ys ih => simp [killL,ih]
theorem renewL_map (τ : List Nat) (ks : List Value) (vs : List AV) (l : List AV) : renewL τ ks vs l = l.map (renew τ ks vs):= by
 induction l with
 | nil => rfl
 | cons y ys ih => simp [renewL,ih]
theorem killnL_map (p : List Nat → Bool) (l : List AV) : killnL p l = l.map (killn p):= by
 induction l with
 | nil => rfl
 | cons y ys ih => simp [killnL,ih]
theorem map_self {f : AV → AV} {l : List AV} (h : ∀ x ∈ l,f x = x) : l.map f = l:= by
 have:= List.map_congr_left h
 rwa [List.map_id'] at this
theorem strip_rows (τ : List Nat) (b : Nat) (f : Nat → List Nat) (n : Nat) (h : ∀ j,[b,j] ≠ τ) : stripL τ (rowsT b f n) = rowsT b f n:= by
 rw [stripL_map]
 refine map_self fun x hx => ?_
 obtain ⟨j,_,rfl⟩:= List.mem_map.1 hx
 unfold slI
 split
 ·rfl
 ·simp only [strip_own,if_neg (h j)]
theorem relab_rows (τ τ' : List Nat) (b : Nat) (f : Nat → List Nat) (n : Nat) (h : ∀ j,[b,j] ≠ τ ∧ [b,j] ≠ τ') : relabL τ τ' (rowsT b f n) = rowsT b f n:= by
 rw [relabL_map]
 refine map_self fun x hx => ?_
 obtain ⟨j,_,rfl⟩:= List.mem_map.1 hx
 unfold slI
 split
 ·rfl
 ·simp only [relab_own,if_neg (h j).1,if_neg (h j).2]
theorem kill_rows (m : Nat) (b : Nat) (f : Nat → List Nat) (n : Nat) : killL m (rowsT b f n) = rowsT b f n:= by
 rw [killL_map]
 refine map_self fun x hx => ?_
 obtain ⟨j,_,rfl⟩:= List.mem_map.1 hx
 unfold slI
 split <;> rfl
theorem renew_rows (τ : List Nat) (ks : List Value) (vs : List AV) (b : Nat) (f : Nat → List Nat) (n : Nat) : renewL τ ks vs (rowsT b f n) = rowsT b f n:= by
 rw [renewL_map]
 refine map_self fun x hx => ?_
 obtain ⟨j,_,rfl⟩:= List.mem_map.1 hx
 unfold slI
 split <;> rfl
theorem strip_set (b : Nat) (f : Nat → List Nat) (n k : Nat) (x : AV) : (stripL [b,k] (rowsT b f n)).set k x = (rowsT b f n).set k x:= by
 rw [stripL_map]
 apply List.ext_getElem?
 intro j
 rw [List.getElem?_set,List.getElem?_set,List.length_map]
 split
 ·rfl
 ·rename_i hj
  rw [List.getElem?_map]
  cases hx : (rowsT b f n)[j]? with
  | none => rfl
  | some y =>
   have hjn : j < n:= by have:= (List.getElem?_eq_some_iff.1 hx).1; rwa [rowsT_len] at this
   rw [rowsT_get b f n j hjn] at hx
   injection hx with hx
   rw [← hx]
   simp only [Option.map_some,slI]
   split
   ·rfl
   ·rw [strip_own,if_neg (by simp; omega)]
theorem relab_set (b : Nat) (f : Nat → List Nat) (n k : Nat) (l : List Nat) (hk : k < n) (hl : l ≠ []) : relabL [b] [b,k] ((rowsT b f n).set k (.sl (.own [b]) 1 (l.map avI))) = rowsT b (fun j => if j = k then l else f j) n:= by
 rw [relabL_map]
 apply List.ext_getElem?
 intro j
 rw [List.getElem?_map,List.getElem?_set,rowsT_len]
 by_cases hjn : j < n
 ·have hR:= rowsT_get b (fun j => if j = k then l else f j) n j hjn
  rw [hR]
  by_cases hjk : k = j
  ·subst hjk
   simp only [if_pos hk,if_true,Option.map_some,relab_own,slI,if_neg hl]
  ·rw [if_neg hjk,rowsT_get b f n j hjn]
   have hjk2 : ¬ j = k:= fun e => hjk e.symm
   simp only [Option.map_some,slI,if_neg hjk2]
   split
   ·rfl
   ·rw [relab_own,if_neg (by simp),if_neg (by simp; omega)]
 ·have h1 : (rowsT b (fun j => if j = k then l else f j) n)[j]? = none:= List.getElem?_eq_none (by rw [rowsT_len]; omega)
  have h2 : (rowsT b f n)[j]? = none:= List.getElem?_eq_none (by rw [rowsT_len]; omega)
  rw [if_neg (by omega),h1,h2]
  rfl
def rowsN (f : Nat → List Nat) (n : Nat) : List AV:= (List.range n).map fun j => if f j = [] then .sl .nil 0 [] else .sl .none 1 ((f j).map avI)
theorem close_rows (b : Nat) (f : Nat → List Nat) (n : Nat) : mapO closeV (rowsT b f n) = some (rowsN f n):= by
 unfold rowsT rowsN
 generalize List.range n = r
 induction r with
 | nil => rfl
 | cons j r ih =>
  have e : closeV (slI [b,j] (f j)) = some (if f j = [] then .sl .nil 0 [] else .sl .none 1 ((f j).map avI)):= by
   unfold slI
   split <;> rfl
  simp only [List.map_cons,mapO,e,ih]
def onQ (w : NW) (j i : Nat) : Bool:= match w.pts[i]? with | some p => p.lk == (j : Int) | none => false
def ofQ (w : NW) (j i : Nat) : Bool:= match w.pts[i]? with | some p => p.rt == (j : Int) | none => false
def mbQ (w : NW) (j i : Nat) : Bool:= match w.mbs[i]? with | some p => p.lk == (j : Int) | none => false
theorem len_le {w : NW} (hv : vNet w = none) (k : Nat) (hk : k < 7) : lenN w k ≤ mostN k:= by
 rcases Nat.lt_or_ge (mostN k) (lenN w k) with h | h
 ·have:= (vNet_ok hv k (mostN k) hk h).1
  omega
 ·exact h
structure PortOK (w : NW) (i : Nat) (x : NPt) : Prop where
 rt : ∃ r : Nat,x.rt = (r : Int) ∧ r < w.rts.length
 lk : ∃ k : Nat,x.lk = (k : Int) ∧ k < w.lks.length
 on : onAt w.net x.lk x.a = true
 one : ∀ (j : Nat) (y : NPt),j < i → w.pts[j]? = some y → p_port_1 x y = false
theorem placeN_iff {i : Int} {n : Nat} : placeN i n = true ↔ ∃ k : Nat,i = (k : Int) ∧ k < n:= by
 simp only [placeN,Bool.and_eq_true,decide_eq_true_eq]
 exact ⟨fun ⟨a,b⟩ => ⟨i.toNat,by omega,by omega⟩,fun ⟨k,a,b⟩ => ⟨by omega,by omega⟩⟩
theorem any_take_false {α : Type} {p : α → Bool} {l : List α} {i : Nat} (h : (l.take i).any p = false) : ∀ (j : Nat) (y : α),j < i → l[j]? = some y → p y = false:= by
 intro j y hj hy
 cases hp : p y with
 | false => rfl
 | true => rw [any_take_some hj hy hp] at h; cases h
theorem ite_none {c : Prop} [Decidable c] {g : Nat} {r : Option Nat} (h : (if c then some g else r) = none) : ¬ c ∧ r = none:= by
 split at h
 ·cases h
 ·exact ⟨by assumption,h⟩
theorem portOK {w : NW} (hv : vNet w = none) {i : Nat} {x : NPt} (hx : w.pts[i]? = some x) : PortOK w i x:= by
 have hi : i < w.pts.length:= (List.getElem?_eq_some_iff.1 hx).1
 have h:= (vNet_ok hv 2 i (by decide) hi).2
 simp only [vAt,hx,Option.bind_some,ptOf,rt_len,lk_len] at h
 obtain ⟨h1,h⟩:= ite_none h
 obtain ⟨h2,h⟩:= ite_none h
 obtain ⟨h3,h⟩:= ite_none h
 simp only [Bool.not_eq_false,Bool.and_eq_true] at h1
 exact ⟨placeN_iff.1 h1.1,placeN_iff.1 h1.2,by simpa using h2,any_take_false (by simpa using h3)⟩
structure MemOK (w : NW) (x : NM) : Prop where
 lk : ∃ k : Nat,x.lk = (k : Int) ∧ k < w.lks.length
 g : groupN x.g = true
 host : ∀ a ∈ x.src,hostN a = true
 few : x.src.length ≤ 4
 one : x.src.Nodup
theorem memOK {w : NW} (hv : vNet w = none) {i : Nat} {x : NM} (hx : w.mbs[i]? = some x) : MemOK w x:= by
 have hi : i < w.mbs.length:= (List.getElem?_eq_some_iff.1 hx).1
 have h:= (vNet_ok hv 6 i (by decide) hi).2
 simp only [vAt,hx,Option.bind_some,mbOf] at h
 obtain ⟨h1,h⟩:= ite_none h
 obtain ⟨h2,h⟩:= ite_none h
 obtain ⟨h3,h⟩:= ite_none h
 obtain ⟨h4,h⟩:= ite_none h
 simp only [Bool.not_eq_true,Bool.or_eq_false_iff,Bool.not_eq_false',List.any_eq_false] at h2
 exact ⟨placeN_iff.1 (by simpa using h1),h2.1,fun a ha => by have:= h2.2 a ha; simpa using this,by simpa using h3,by simpa using h4⟩
theorem VS.mono {E : Env} {S T : Env → Prop} (h : VS E S) (hT : ∀ E',S E' → T E') : VS E T:= h.trans fun E' hS => VS.refl (hT E' hS)
theorem VS.tell {E : Env} {p : Spot} {x y : AV} (hp : E.at p = some x) (h : ∀ (F : RE) (v : Value),Rep F x v → Rep F y v) : VS E fun E' => E' = E.set p y:= by
 intro R N a F hR hI
 obtain ⟨v,hv,hset⟩:= hI.atSpot hp
 exact ⟨_,F,rfl,rfl,hset hI rfl (fun c i _ => rfl) (h F v hv) ⟨x,hp⟩⟩
theorem rep_nil_fr {F : RE} {e e' : Nat} {τ : List Nat} {v : Value} (h : Rep F (.sl .nil e []) v) : Rep F (.sl (.fr τ) e' []) v:= by
 simp only [Rep] at h ⊢
 obtain ⟨A,cap,vs,rfl,h1,h2,h3,h4,h5⟩:= h
 have : vs = []:= by simpa [RepL] using h2
 subst this
 exact ⟨A,cap,[],rfl,h1,h2,by simp,h4,.inl ⟨trivial,h5.2⟩⟩
theorem back_0c (s : List (Nat × AV)) (x y : List AV) (c' : List (Nat × List AV)) : backC [(0,100000)] [(100000,y)] (mkE s ((0,x) :: c')) = mkE s ((0,y) :: c'):= by
 simp only [backC,mkE]
 congr 1
 funext c
 by_cases h2 : c = 0
 ·subst h2; rfl
 ·simp [lentAs,getC,h2]
theorem call0c_of {P : Program} {dst : Option Nat} {os : List AOper} {s : List (Nat × AV)} {c' : List (Nat × List AV)} {K : Env → Prop} {f : FuncId} {raw al : List AV} {args : Option (List AV)} {r : AV} {l : List Int} {tl y : List AV} (ht : Tl tl)
  (hl : mapO (lowerM [(0,100000)] (getC ((0,l.map aI ++ tl) :: c')) 8) raw = some al) (h : AM P f al [(100000,l.map aI ++ tl)] r [(100000,y)])
  (hk : awX false P os ((mkE s ((0,y) :: c')).putO dst (retag (dst.getD 0) (unlend [(0,100000)] r))) K) : callX false P dst os s ((0,l.map aI ++ tl) :: c') K f raw args:= by
 refine callM_of [(0,100000)] rfl hl ?_ h ?_
 ·show mapO _ _ = _
  have:= close_dC l.toArray ht
  rw [show dC l.toArray tl = l.map aI ++ tl by simp [dC]] at this
  simp only [mapO_cons,mapO_nil,getC_cons,↓reduceIte,this,catO_some]
 ·rw [back_0c]
  exact hk
theorem cutA {P : Program} {a b : ACode} {E : Env} {K : Env → Prop} {Q : AExit → Env → Prop} (F : Env → Prop) (h : aw P a E (thenQ (fun E' => aw P b E' (thenQ F Q)) (thenQ F Q))) (hF : ∀ E',F E' → K E') :
  aw P a E (thenQ (fun E' => aw P b E' (thenQ K Q)) (thenQ K Q)):= by
 have key : ∀ ex E',thenQ F Q ex E' → thenQ K Q ex E':= fun ex E' h => by
  cases ex with
  | normal => exact hF _ h
  | exit i => exact h
  | ret => exact h
 refine aw_mono a (fun ex E' h => ?_) h
 cases ex with
 | normal => exact aw_mono b key h
 | exit i => exact key (.exit i) _ h
 | ret => exact key .ret _ h
theorem cutS {P : Program} {a b : ACode} {s : List (Nat × AV)} {c : List (Nat × List AV)} {K : Env → Prop} {Q : AExit → Env → Prop} (F : Env → Prop) (h : shiftX P a s c (thenQ (fun E' => aw P b E' (thenQ F Q)) (thenQ F Q))) (hF : ∀ E',F E' → K E') :
  shiftX P a s c (thenQ (fun E' => aw P b E' (thenQ K Q)) (thenQ K Q)):= cutA F h hF
theorem awX_mono {P : Program} {D : Bool} {os : List AOper} {E : Env} {K K' : Env → Prop} (hk : ∀ E,K E → K' E) (h : awX D P os E K) : awX D P os E K':= by
 cases D with
 | true => exact AM_mk.awOpsD_mono os hk h
 | false => exact AM_mk.awOps_mono os hk h
theorem cutR {P : Program} {o : Option Env} {D : Bool} {os : List AOper} {b : ACode} {kl : List Nat} {Q : AExit → Env → Prop} (E1 : Env) (h1 : bindE o D P os (fun E' => E'.dropS kl = E1)) (h2 : aw P b E1 Q) : bindE o D P os (fun E' => aw P b (E'.dropS kl) Q):= by
 unfold bindE at h1 ⊢
 split at h1
 ·exact awX_mono (fun E e => by rw [e]; exact h2) h1
 ·exact h1.elim
theorem aw_seq' {P : Program} {a b : ACode} {E : Env} {Q : AExit → Env → Prop} : aw P (.seq a b) E Q = aw P a E (thenQ (fun E' => aw P b E' Q) Q):= rfl
theorem merge {P : Program} {a : ACode} {Q : AExit → Env → Prop} {F S : Env → Prop} (h1 : ∀ E,F E → VS E S) (h2 : ∀ E,S E → aw P a E Q) (E : Env) (h : F E) : aw P (.shift a) E Q:= ⟨S,h1 E h,h2⟩
def tC (w : NW) (on of tat mb gr : AV) : List AV:= [.sl .none 2 (w.rts.map avRouter),.sl .none 3 (w.lks.map avLink),.sl .none 3 (w.pts.map avPort),.sl .none 5 (w.ros.map avRoute),.sl .none 3 (w.rgs.map avRange),.sl .none 3 (w.scs.map avSource),.sl .none 4 (w.mbs.map avMb),on,of,tat,mb,gr]
def keysP (w : NW) (i : Nat) : List Value:= (w.pts.take i).map fun p => .int .u32 (p.a : Nat)
def valsP (i : Nat) : List AV:= (List.range i).map avI
theorem keyAt_none (k : Value) : ∀ (l : List Value) (i : Nat),(∀ x ∈ l,keyEq false k x = some false) → keyAt false k l i = some none
 | [],i,_ => rfl
 | x :: l,i,h => by
  simp only [keyAt,h x (by simp)]
  exact keyAt_none k l (i + 1) fun y hy => h y (by simp [hy])
theorem take_succ_map {α β : Type} (f : α → β) {l : List α} {i : Nat} {x : α} (hx : l[i]? = some x) : (l.take (i + 1)).map f = (l.take i).map f ++ [f x]:= by
 rw [List.take_add_one,hx]
 simp
theorem put_keys {w : NW} {i : Nat} {x : NPt} (hx : w.pts[i]? = some x) (hd : ∀ (j : Nat) (y : NPt),j < i → w.pts[j]? = some y → y.a ≠ x.a) :
  mapPut false (keysP w i) (valsP i) (.int .u32 (x.a : Nat)) (avI i) = some (keysP w (i + 1),valsP (i + 1)):= by
 have hk : keyAt false (.int .u32 (x.a : Nat)) (keysP w i) 0 = some none:= by
  refine keyAt_none _ _ _ fun y hy => ?_
  obtain ⟨p,hp,rfl⟩:= List.mem_map.1 hy
  obtain ⟨j,hj,e⟩:= List.mem_iff_getElem.1 hp
  simp only [List.length_take] at hj
  rw [List.getElem_take] at e
  have:= hd j p (by omega) (by rw [List.getElem?_eq_getElem (by omega),e])
  simp only [keyEq,if_true,Option.some.injEq,beq_eq_false_iff_ne,ne_eq]
  omega
 have e1 : keysP w (i + 1) = keysP w i ++ [.int .u32 (x.a : Nat)]:= take_succ_map _ hx
 have e2 : valsP (i + 1) = valsP i ++ [avI i]:= by simp [valsP,List.range_succ]
 simp only [mapPut,hk,e1,e2]
theorem strip_rows_set (τ : List Nat) (b : Nat) (f : Nat → List Nat) (n k : Nat) (l : List AV) (h : ∀ j,[b,j] ≠ τ) (h2 : [b] ≠ τ) : stripL τ ((rowsT b f n).set k (.sl (.own [b]) 1 l)) = (rowsT b f n).set k (.sl (.own [b]) 1 l):= by
 have:= strip_rows τ b f n h
 rw [stripL_map] at this ⊢
 rw [List.map_set,this,strip_own,if_neg h2]
theorem relab_rows_set (τ τ' : List Nat) (b : Nat) (f : Nat → List Nat) (n k : Nat) (l : List AV) (h : ∀ j,[b,j] ≠ τ ∧ [b,j] ≠ τ') (h2 : [b] ≠ τ ∧ [b] ≠ τ') : relabL τ τ' ((rowsT b f n).set k (.sl (.own [b]) 1 l)) = (rowsT b f n).set k (.sl (.own [b]) 1 l):= by
 have:= relab_rows τ τ' b f n h
 rw [relabL_map] at this ⊢
 rw [List.map_set,this,relab_own,if_neg h2.1,if_neg h2.2]
theorem renew_rows_set (τ : List Nat) (ks : List Value) (vs : List AV) (b : Nat) (f : Nat → List Nat) (n k : Nat) (l : List AV) : renewL τ ks vs ((rowsT b f n).set k (.sl (.own [b]) 1 l)) = (rowsT b f n).set k (.sl (.own [b]) 1 l):= by
 have:= renew_rows τ ks vs b f n
 rw [renewL_map] at this ⊢
 rw [List.map_set,this]
 rfl
def DD (r : List AV) : Prop:= ∀ x ∈ r,x = .dead
theorem DD.strip {r : List AV} (h : DD r) (τ : List Nat) (l : List AV) : stripL τ (l ++ r) = stripL τ l ++ r:= by
 rw [stripL_map,stripL_map,List.map_append,map_self (l:= r) fun x hx => by rw [h x hx]; rfl]
theorem DD.relab {r : List AV} (h : DD r) (τ τ' : List Nat) (l : List AV) : relabL τ τ' (l ++ r) = relabL τ τ' l ++ r:= by
 rw [relabL_map,relabL_map,List.map_append,map_self (l:= r) fun x hx => by rw [h x hx]; rfl]
theorem DD.kill {r : List AV} (h : DD r) (m : Nat) (l : List AV) : killL m (l ++ r) = killL m l ++ r:= by
 rw [killL_map,killL_map,List.map_append,map_self (l:= r) fun x hx => by rw [h x hx]; rfl]
theorem DD.renew {r : List AV} (h : DD r) (τ : List Nat) (ks : List Value) (vs : List AV) (l : List AV) : renewL τ ks vs (l ++ r) = renewL τ ks vs l ++ r:= by
 rw [renewL_map,renewL_map,List.map_append,map_self (l:= r) fun x hx => by rw [h x hx]; rfl]
theorem DD.killn {r : List AV} (h : DD r) (p : List Nat → Bool) (l : List AV) : killnL p (l ++ r) = killnL p l ++ r:= by
 rw [killnL_map,killnL_map,List.map_append,map_self (l:= r) fun x hx => by rw [h x hx]; rfl]
theorem DD.rep (j : Nat) : DD (List.replicate j .dead):= fun x hx => List.eq_of_mem_replicate hx
theorem put_set (l r : List AV) (k : Nat) (x : AV) (hk : k < l.length) : (l ++ r).take k ++ [x] ++ (l ++ r).drop (k + 1) = l.set k x ++ r:= by
 rw [List.take_append_of_le_length (by omega),List.drop_append_of_le_length (by omega),← List.append_assoc,List.set_eq_take_append_cons_drop,if_pos hk]
 simp
end Go.Proofs.YtnndbbmidoidpaaGreatDoor.VL
end

