import Derived.Test.YtelbgkknneljeaaGreatDoorGe9
set_option linter.unusedVariables false
set_option linter.unusedSimpArgs false
section
namespace Go.Proofs.YtelbgkknneljeaaGreatDoor.VL
open Go.RowKit
mutual
/-- What bore the one mark bears the other one. -/
def relab (τ τ':List Nat):AV→AV
 | .sl t e rows=>.sl (match t with
  | .own s=>if s=τ then .own τ' else if s=τ' then .none else .own s
  | .fr s=>if s=τ then .fr τ' else if s=τ' then .gone else .fr s
  | t=>t) e rows
 | .mf s al=>if s=τ then .mf τ' al else .mf s (al&&decide (s≠τ'))
 | .agg cs=>.agg (relabL τ τ' cs)
 | .tup cs=>.tup (relabL τ τ' cs)
 | .clo f a b=>.clo f (relabL τ τ' a) (relabL τ τ' b)
 | .ifc t x=>.ifc t (relab τ τ' x)
 | x=>x
def relabL (τ τ':List Nat):List AV→List AV
 | []=>[]
 | x::xs=>relab τ τ' x::relabL τ τ' xs
end
def RE.relab (E:RE)(τ τ':List Nat):RE:={ E with own:=fun g t=>(t=τ'∧E.own g τ)∨(t≠τ∧t≠τ'∧E.own g t) }
def Env.relab (E:Env)(τ τ':List Nat):Env:=⟨fun k=>VL.relab τ τ' (E.s k),fun c=>(E.c c).map (relabL τ τ')⟩
theorem RE.relab_closed (E:RE)(τ τ':List Nat):(E.relab τ τ').closed=E.closed:=rfl
theorem RE.relab_bor (E:RE)(τ τ':List Nat):(E.relab τ τ').bor=E.bor:=rfl
mutual
theorem rep_relab (τ τ':List Nat):∀ {x:AV} {E:RE} {v:Value},Rep E x v→Rep (E.relab τ τ') (relab τ τ' x) v
 | .lit u,E,v,h=>by simpa only [relab,Rep] using h
 | .agg cs,E,v,h=>by
  simp only [relab,Rep] at h ⊢
  obtain ⟨vs,rfl,h⟩:=h
  exact ⟨vs,rfl,repL_relab τ τ' h⟩
 | .tup cs,E,v,h=>by
  simp only [relab,Rep] at h ⊢
  obtain ⟨vs,rfl,h⟩:=h
  exact ⟨vs,rfl,repL_relab τ τ' h⟩
 | .sl .none e rows,E,v,h=>by
  simp only [relab]
  simp only [Rep,RE.relab_closed] at h ⊢
  exact h
 | .sl .nil e rows,E,v,h=>by
  simp only [relab]
  simp only [Rep,RE.relab_closed] at h ⊢
  exact h
 | .sl .bor e rows,E,v,h=>by
  simp only [relab]
  simp only [Rep,RE.relab_closed] at h ⊢
  exact h
 | .sl .gone e rows,E,v,h=>by
  simp only [relab]
  simp only [Rep,RE.relab_closed] at h ⊢
  exact h
 | .sl (.fr t) e rows,E,v,h=>by
  simp only [relab]
  by_cases h1:t=τ
  ·rw [if_pos h1]
   simp only [Rep,RE.relab_closed] at h ⊢
   obtain ⟨A,cap,vs,rfl,hcap,hr,he,h1',ht⟩:=h
   refine ⟨A,cap,vs,rfl,hcap,hr,he,h1',?_⟩
   rcases ht with ht | ⟨g,cur,ty,ha,hat,hh,hm,hc,ho,hs⟩
   ·exact .inl ht
   ·exact .inr ⟨g,cur,ty,ha,hat,hh,hm,hc,.inl ⟨rfl,h1 ▸ ho⟩,hs⟩
  ·rw [if_neg h1]
   by_cases h2:t=τ'
   ·rw [if_pos h2]
    simp only [Rep,RE.relab_closed] at h ⊢
    obtain ⟨A,cap,vs,rfl,hcap,hr,he,h1',ht⟩:=h
    exact ⟨A,cap,vs,rfl,hcap,hr,he,h1',trivial⟩
   ·rw [if_neg h2]
    simp only [Rep,RE.relab_closed] at h ⊢
    obtain ⟨A,cap,vs,rfl,hcap,hr,he,h1',ht⟩:=h
    refine ⟨A,cap,vs,rfl,hcap,hr,he,h1',?_⟩
    rcases ht with ht | ⟨g,cur,ty,ha,hat,hh,hm,hc,ho,hs⟩
    ·exact .inl ht
    ·exact .inr ⟨g,cur,ty,ha,hat,hh,hm,hc,.inr ⟨h1,h2,ho⟩,hs⟩
 | .sl (.own t) e rows,E,v,h=>by
  simp only [relab]
  by_cases h1:t=τ
  ·rw [if_pos h1]
   simp only [Rep,RE.relab_closed] at h ⊢
   obtain ⟨A,cap,vs,rfl,hcap,hr,he,h1',ht⟩:=h
   refine ⟨A,cap,vs,rfl,hcap,hr,he,h1',?_⟩
   rcases ht with ht | ⟨g,cur,ty,ha,hat,hh,hm,hc,ho,hs⟩
   ·exact .inl ht
   ·exact .inr ⟨g,cur,ty,ha,hat,hh,hm,hc,.inl ⟨rfl,h1 ▸ ho⟩,hs⟩
  ·rw [if_neg h1]
   by_cases h2:t=τ'
   ·rw [if_pos h2]
    simp only [Rep,RE.relab_closed] at h ⊢
    obtain ⟨A,cap,vs,rfl,hcap,hr,he,h1',ht⟩:=h
    refine ⟨A,cap,vs,rfl,hcap,hr,he,h1',fun hne=>?_⟩
    rcases ht with ⟨_,h0⟩ | ⟨g,cur,ty,ha,hat,_⟩
    ·exact absurd (List.eq_nil_of_length_eq_zero (by omega)) hne
    ·exact ⟨g,0,ha,hat⟩
   ·rw [if_neg h2]
    simp only [Rep,RE.relab_closed] at h ⊢
    obtain ⟨A,cap,vs,rfl,hcap,hr,he,h1',ht⟩:=h
    refine ⟨A,cap,vs,rfl,hcap,hr,he,h1',?_⟩
    rcases ht with ht | ⟨g,cur,ty,ha,hat,hh,hm,hc,ho,hs⟩
    ·exact .inl ht
    ·exact .inr ⟨g,cur,ty,ha,hat,hh,hm,hc,.inr ⟨h1,h2,ho⟩,hs⟩
 | .mf t al,E,v,h=>by
  simp only [relab]
  by_cases h1:t=τ
  ·rw [if_pos h1]
   simp only [Rep] at h ⊢
   obtain ⟨b,rfl,h⟩:=h
   refine ⟨b,rfl,fun e=>?_⟩
   obtain ⟨hh,ho,hs⟩:=h e
   exact ⟨hh,.inl ⟨rfl,h1 ▸ ho⟩,hs⟩
  ·rw [if_neg h1]
   simp only [Rep] at h ⊢
   obtain ⟨b,rfl,h⟩:=h
   refine ⟨b,rfl,fun e=>?_⟩
   simp only [Bool.and_eq_true,decide_eq_true_eq] at e
   obtain ⟨hh,ho,hs⟩:=h e.1
   exact ⟨hh,.inr ⟨h1,e.2,ho⟩,hs⟩
 | .mu t k vs,E,v,h=>by
  simp only [relab]
  simp only [Rep,RE.relab_closed] at h ⊢
  exact h
 | .rp cs,E,v,h=>by
  simp only [relab]
  simp only [Rep,RE.relab_closed] at h ⊢
  exact h
 | .bp cs,E,v,h=>by
  simp only [relab]
  simp only [Rep,RE.relab_bor] at h ⊢
  exact h
 | .lp c o,E,v,h=>by simp only [relab,Rep] at h ⊢;exact h
 | .ml c o n k g e,E,v,h=>by simp only [relab,Rep] at h ⊢;exact h
 | .clo f a b,E,v,h=>by
  simp only [relab,Rep] at h ⊢
  obtain ⟨fs,cs,rfl,h1,h2⟩:=h
  exact ⟨fs,cs,rfl,repL_relab τ τ' h1,repL_relab τ τ' h2⟩
 | .ifc t x,E,v,h=>by
  simp only [relab,Rep] at h ⊢
  obtain ⟨u,rfl,h⟩:=h
  exact ⟨u,rfl,rep_relab τ τ' h⟩
 | .mp keys vals,E,v,h=>by
  simp only [relab]
  simp only [Rep,RE.relab_closed] at h ⊢
  exact h
 | .gl i,E,v,h=>by simp only [relab,Rep] at h ⊢;exact h
 | .gp g,E,v,h=>by simpa only [relab,Rep] using h
 | .dead,E,v,h=>by simp only [relab,Rep]
theorem repL_relab (τ τ':List Nat):∀ {xs:List AV} {E:RE} {vs:List Value},RepL E xs vs→RepL (E.relab τ τ') (relabL τ τ' xs) vs
 | [],E,vs,h=>by simpa only [relabL,RepL] using h
 | x::xs,E,vs,h=>by
  simp only [relabL,RepL] at h ⊢
  obtain ⟨v,ws,rfl,h1,h2⟩:=h
  exact ⟨v,ws,rfl,rep_relab τ τ' h1,repL_relab τ τ' h2⟩
end
section
variable {P : Program} {R : RE} {N : Nat} {env : Env} {a : Act} {E : RE}
theorem Inv.relab (h:Inv R N env a E)(τ τ':List Nat):Inv R N (env.relab τ τ') a (E.relab τ τ'):=by
 have own_of:∀ {g t},(E.relab τ τ').own g t→∃ s,E.own g s:=fun {g t} ho=>ho.elim (fun h=>⟨_,h.2⟩) fun h=>⟨_,h.2.2⟩
 refine { h with ownlt:=fun g t ho=>(own_of ho).elim fun s hs=>h.ownlt g s hs,own1:=fun g t t' h1 h2=>?_,locc:=fun c b hb=>?_,locd:=fun c cs hc=>?_,mlocc:=fun c b hb=>let ⟨h1,h2,h3,h4,h5⟩:=h.mlocc c b hb;⟨h1,h2,h3,fun t ht=>(own_of ht).elim h4,h5⟩,slots:=fun k=>rep_relab τ τ' (h.slots k) }
 ·rcases h1 with ⟨e1,o1⟩| ⟨a1,b1,o1⟩<;> rcases h2 with ⟨e2,o2⟩| ⟨a2,b2,o2⟩
  ·rw[e1,e2]
  ·exact absurd (h.own1 g _ _ o2 o1) a2
  ·exact absurd (h.own1 g _ _ o1 o2) a1
  ·exact h.own1 g _ _ o1 o2
 ·obtain ⟨h1,h2,h3,cs,vals,ty,hcs,hh,hr,ho⟩:=h.locc c b hb
  exact ⟨h1,h2,fun t ht=>(own_of ht).elim h3,relabL τ τ' cs,vals,ty,by simp[Env.relab,hcs],hh,repL_relab τ τ' hr,ho⟩
 ·obtain ⟨cs',hcs',_⟩:=Option.map_eq_some_iff.1 hc
  exact h.locd c cs' hcs'
end
theorem VS.relab {E:Env} (τ τ':List Nat):VS E fun E'=>E'=E.relab τ τ':=fun R N a F hR hI=>⟨E.relab τ τ',F.relab τ τ',rfl,rfl,hI.relab τ τ'⟩
theorem VS.adoptM {E:Env} {p:Spot} {τ name:List Nat} (hp:E.at p=some (.mf τ true)):VS E fun E'=>E'=((E.killn (·==name)).strip τ).set p (.mu name [] []):=by
 intro R N a F hR hI
 obtain ⟨v,hv,hset⟩:=hI.atSpot hp
 simp only [Rep] at hv
 obtain ⟨b,rfl,hb⟩:=hv
 obtain ⟨⟨ck,hh⟩,hown,hS⟩:=hb trivial
 have hI1:=(hI.unname (·==name)).unownT τ
 obtain ⟨hlt1,hlt2⟩:=hI.ownlt b τ hown
 obtain ⟨hI2,hx⟩:=hI1.takeName (τ:=name) (g:=b) (w':=F.w) (by simp [RE.unown,RE.unname]) hlt1 hlt2 hS (fun t ht=>ht.2 (hI.own1 b t τ ht.1 hown)) (fun c hc=>(hI.locc c b hc).2.2.1 τ hown)
  (fun t ht=>by
   simp only [RE.unown,RE.unname] at ht
   split at ht
   ·cases ht
   ·exact (hI.mlocc t b ht).2.2.2.1 τ hown) (Nat.le_refl _) rfl rfl rfl (fun _ _ _=>rfl)
 refine ⟨_,_,?_,rfl,hset hI2 rfl (fun c i _=>rfl) ?_ ?_⟩
 ·rfl
 ·simp only [Rep]
  exact ⟨b,[],ck,[],by simp,rfl,hh,rfl,rfl,by simp [RepL]⟩
 ·cases p with
  | slot k=>exact ⟨_,rfl⟩
  | cell c i=>
   simp only [Env.at] at hp ⊢
   obtain ⟨cs,hcs,hx⟩:=Option.bind_eq_some_iff.1 hp
   have hl:∀ (q:List Nat→Bool) (l:List AV),(killnL q l).length=l.length:=by
    intro q l
    induction l with
    | nil=>rfl
    | cons x l ih=>simp [killnL,ih]
   have hl2:∀ (l:List AV),(stripL τ l).length=l.length:=by
    intro l
    induction l with
    | nil=>rfl
    | cons x l ih=>simp [stripL,ih]
   have hi:i<cs.length:=(List.getElem?_eq_some_iff.1 hx).1
   refine ⟨(stripL τ (killnL (·==name) cs))[i]'(by rw [hl2,hl];exact hi),?_⟩
   simp only [Env.strip,Env.killn,hcs,Option.map_some,Option.bind_some]
   exact List.getElem?_eq_getElem _
theorem VS.freeze {E:Env} {p:Spot} {τ:List Nat} {e:Nat} {rows:List AV} (hp:E.at p=some (.sl (.fr τ) e rows)):VS E fun E'=>E'=(E.strip τ).set p (.sl .none e rows):=by
 intro R N a F hR hI
 obtain ⟨v,hv,hset⟩:=hI.atSpot hp
 simp only [Rep] at hv
 obtain ⟨A,cap,vs,rfl,hcap,hr,he,h1,ht⟩:=hv
 have hU:=hI.unownT τ
 have hz:∃ z,(E.strip τ).at p=some z:=⟨_,at_strip τ hp⟩
 rcases ht with ⟨h0,_⟩ | ⟨b,cur,ty,rfl,hat,hh,hm,hcs,hown,hS,hone⟩
 ·refine ⟨_,F.unown τ,rfl,rfl,hset hU rfl (fun c i _=>rfl) ?_ hz⟩
  simp only [Rep]
  exact ⟨A,cap,vs,rfl,hcap,hr,he,h1,fun hne=>absurd h0 hne⟩
 ·have hnl:∀ c,F.loc c≠some b:=fun c hc'=>(hI.locc c b hc').2.2.1 τ hown
  have hno:∀ t,¬ (F.unown τ).own b t:=fun t ht=>ht.2 (hI.own1 b t τ ht.1 hown)
  have hnm:∀ t,F.mloc t≠some b:=fun t ht=>(hI.mlocc t b ht).2.2.2.1 τ hown
  obtain ⟨F',hF'⟩:∃ F':RE,F'={ F.unown τ with S:=fun b' o=>F.S b' o∨b'=b }:=⟨_,rfl⟩
  have hx:Ext (F.unown τ) F':=by
   rw [hF']
   refine ⟨fun _ _ h=>.inl h,fun _ h=>h,fun _ _ _ _ h=>h,fun _ _ _ _ h=>h,fun c b' hc'=>hc',fun k t hk=>⟨hk,rfl,fun o ho=>?_⟩,rfl,fun t b' hb=>⟨hb,rfl⟩⟩
   rcases ho with ho | ho
   ·exact ho
   ·exact absurd (ho ▸ hk) (hno t)
  have hxc:Ext F.closed F'.closed:=hx.closed
  have hI1:Inv R N (E.strip τ) a F':=by
   have hw:F'.w=F.w:=by rw [hF'];rfl
   have hlo:=(hI.ownlt b τ hown)
   refine ⟨hU.defers,hU.Nlim,by rw [hF'];exact hU.lentl,hU.size,by rw [hF'];exact hU.B,by rw [hF'];exact hU.Bok,by rw [hw];exact hI.below,hU.Mlt,fun k hk o hs=>?_,by rw [hF'];exact hU.par,by rw [hF'];exact hU.G,fun b' o hb'=>?_,fun b' o hs=>?_,by rw [hF'];exact hU.ownlt,by rw [hF'];exact hU.own1,fun c b' hb'=>?_,by rw [hF'];exact hU.locd,by rw [hF'];exact hU.loc1,fun t b' hb'=>?_,by rw [hF'];exact hU.mloc1,fun k=>(hU.slots k).mono hx⟩
   ·rw [hF'] at hs
    rcases hs with hs | hs
    ·exact hI.MS k hk o hs
    ·subst hs
     have:=hI.Mlt k hk
     omega
   ·rw [hF',← hI.S0 b' o hb']
    constructor
    ·rintro (hs | hs)
     ·exact hs
     ·omega
    ·exact .inl
   ·rw [hF'] at hs
    rw [hw]
    rcases hs with hs | hs
    ·exact hI.Slt b' o hs
    ·rw [hs];exact hlo.2
   ·have hb2:(F.unown τ).loc c=some b':=by rw [hF'] at hb';exact hb'
    obtain ⟨k1,k2,k3,cs,vals,ty',hcs',hh',hr',ho'⟩:=hU.locc c b' hb2
    refine ⟨k1,fun o hs=>?_,by rw [hF'];exact k3,cs,vals,ty',hcs',by rw [hw];exact hh',hr'.mono hx,ho'⟩
    rw [hF'] at hs
    rcases hs with hs | hs
    ·exact k2 o hs
    ·exact hnl c (hs ▸ hb2)
   ·have hb2:(F.unown τ).mloc t=some b':=by rw [hF'] at hb';exact hb'
    obtain ⟨k1,k2,k3,k4,k5⟩:=hU.mlocc t b' hb2
    refine ⟨k1,by rw [hw];exact k2,fun o hs=>?_,by rw [hF'];exact k4,by rw [hF'];exact k5⟩
    rw [hF'] at hs
    rcases hs with hs | hs
    ·exact k3 o hs
    ·exact hnm t (hs ▸ hb2)
  refine ⟨_,F',by rw [hF'];rfl,rfl,hset hI1 (by rw [hF'];rfl) (fun c i _=>by rw [hF'];rfl) ?_ hz⟩
  simp only [Rep]
  refine ⟨_,cap,vs,rfl,hcap,hr.mono hxc,he,h1,fun _=>⟨b,0,rfl,fun j u hj=>⟨?_,?_⟩⟩⟩
  ·rw [hF'];exact .inr rfl
  ·rw [hF'];exact (hat j u hj).2
theorem at_forget {E:Env} {p:Spot} {x:AV} (n:Nat)(hpn:∀ i,p≠.cell n i)(h:E.at p=some x):(E.forget n).at p=some (kill n x):=by
 cases p with
 | slot k=>
  simp only[Env.at,Option.some.injEq] at h ⊢
  subst h
  rfl
 | cell c i=>
  have hcn:c≠n:=fun e=>hpn i (by rw[e])
  simp only[Env.at] at h ⊢
  obtain ⟨cs,hcs,hx⟩:=Option.bind_eq_some_iff.1 h
  have e:∀ l:List AV,killL n l=l.map (kill n):=by
   intro l
   induction l with
   | nil=>rfl
   | cons y ys ih=>simp[killL,ih]
  simp only[Env.forget,if_neg hcn,hcs,Option.map_some,Option.bind_some,e,List.getElem?_map,hx]
theorem VS.freezeM {E:Env} {p:Spot} {n o len cap e:Nat} {g:Bool} {cs l:List AV} (hp:E.at p=some (.ml n o len cap g e)) (hn:n<100000) (hc:E.c n=some cs) (hq:o+len * e≤cs.length∧len≤cap∧(g=true∨e=1)) (hl:mapO closeV ((cs.drop o).take (len * e))=some l) (hpn:∀ i,p≠.cell n i) :
  VS E fun E'=>E'=(E.forget n).set p (.sl .none e (chunk g e len l)):=by
 intro R N a F hR hI
 obtain ⟨v,hv,hset⟩:=hI.atSpot hp
 simp only [Rep] at hv
 obtain ⟨b,hb,rfl⟩:=hv
 obtain ⟨h1,h2,h3,cs',vals,ty,hcs',hh,hr,ho⟩:=hI.locc n b hb
 rw [hc] at hcs'
 injection hcs' with hcs'
 subst hcs'
 have hU:=hI.forgetLoc n
 have hb0:R.w.heap.size≤b:=h1.resolve_right fun h=>by have:=hR.lim n b h;omega
 have hbl:b<F.w.heap.size:=(Array.getElem?_eq_some_iff.1 hh).1
 have hnl:∀ c,(F.unloc n).loc c≠some b:=fun c hc'=>by
  simp only [RE.unloc] at hc'
  split at hc'
  ·cases hc'
  ·rename_i hcn;exact hcn (hI.loc1 c n b hc' hb)
 have hnm:∀ t,F.mloc t≠some b:=fun t ht=>(hI.mlocc t b ht).2.2.2.2 n hb
 obtain ⟨F',hF'⟩:∃ F':RE,F'={ F.unloc n with S:=fun b' o=>F.S b' o∨b'=b }:=⟨_,rfl⟩
 have hx:Ext (F.unloc n) F':=by
  rw [hF']
  refine ⟨fun _ _ h=>.inl h,fun _ h=>h,fun _ _ _ _ h=>h,fun _ _ _ _ h=>h,fun c b' hc'=>hc',fun k t hk=>⟨hk,rfl,fun o ho=>?_⟩,rfl,fun t b' hb=>⟨hb,rfl⟩⟩
  rcases ho with ho | ho
  ·exact ho
  ·exact absurd (ho ▸ hk) (h3 t)
 have hw:F'.w=F.w:=by rw [hF'];rfl
 have hI1:Inv R N (E.forget n) a F':=by
  refine ⟨hU.defers,hU.Nlim,by rw [hF'];exact hU.lentl,hU.size,by rw [hF'];exact hU.B,by rw [hF'];exact hU.Bok,by rw [hw];exact hI.below,hU.Mlt,fun k hk o hs=>?_,by rw [hF'];exact hU.par,by rw [hF'];exact hU.G,fun b' o hb'=>?_,fun b' o hs=>?_,by rw [hF'];exact hU.ownlt,by rw [hF'];exact hU.own1,fun c b' hb'=>?_,by rw [hF'];exact hU.locd,by rw [hF'];exact hU.loc1,fun t b' hb'=>?_,by rw [hF'];exact hU.mloc1,fun k=>(hU.slots k).mono hx⟩
  ·rw [hF'] at hs
   rcases hs with hs | hs
   ·exact hI.MS k hk o hs
   ·subst hs
    have:=hI.Mlt k hk
    omega
  ·rw [hF',← hI.S0 b' o hb']
   constructor
   ·rintro (hs | hs)
    ·exact hs
    ·omega
   ·exact .inl
  ·rw [hF'] at hs
   rw [hw]
   rcases hs with hs | hs
   ·exact hI.Slt b' o hs
   ·rw [hs];exact hbl
  ·have hb2:(F.unloc n).loc c=some b':=by rw [hF'] at hb';exact hb'
   obtain ⟨k1,k2,k3,cs,vals,ty',hcs',hh',hr',ho'⟩:=hU.locc c b' hb2
   refine ⟨k1,fun o hs=>?_,by rw [hF'];exact k3,cs,vals,ty',hcs',by rw [hw];exact hh',hr'.mono hx,ho'⟩
   rw [hF'] at hs
   rcases hs with hs | hs
   ·exact k2 o hs
   ·exact hnl c (hs ▸ hb2)
  ·have hb2:(F.unloc n).mloc t=some b':=by rw [hF'] at hb';exact hb'
   obtain ⟨k1,k2,k3,k4,k5⟩:=hU.mlocc t b' hb2
   refine ⟨k1,by rw [hw];exact k2,fun o hs=>?_,by rw [hF'];exact k4,by rw [hF'];exact k5⟩
   rw [hF'] at hs
   rcases hs with hs | hs
   ·exact k3 o hs
   ·exact hnm t (hs ▸ hb2)
 have hrl:=hr.length
 have hq2:RepL F'.closed l ((vals.toList.drop o).take (len * e)):=RepL.mono hx.closed (mapO_rep (E:=F) (E':=F.closed) (fun x y v h1 h2=>close_rep hI h1 h2) hl ((hr.drop o).take _))
 obtain ⟨k1,k2,k3⟩:=chunk_rep hq.2.2 len hq2 (by rw [List.length_take,List.length_drop];omega) fun u hu=>ho u (List.mem_of_mem_drop (List.mem_of_mem_take hu))
 refine ⟨_,F',hw,rfl,hset hI1 hw (fun c i hpc=>?_) ?_ ⟨_,at_forget n hpn hp⟩⟩
 ·have hcn:c≠n:=fun e'=>hpn i (by rw [hpc,e'])
  rw [hF']
  simp only [RE.unloc,if_neg hcn]
 ·simp only [Rep]
  refine ⟨_,cap,_,by rw [chunk_length],by rw [chunk_length];exact hq.2.1,k1,k3,fun u hu=>?_,fun _=>⟨b,o,rfl,?_⟩⟩
  ·rw [k2] at hu
   exact ho u (List.mem_of_mem_drop (List.mem_of_mem_take hu))
  ·rw [k2]
   intro j u hj
   refine ⟨by rw [hF'];exact .inr rfl,?_⟩
   rw [List.getElem?_take] at hj
   split at hj
   ·rw [List.getElem?_drop] at hj
    rw [hw]
    simp [World.cell?,hh]
    simpa using hj
   ·cases hj
theorem mkE_forget (s:List (Nat × AV)) (c:List (Nat × List AV)) (n:Nat):(mkE s c).forget n=mkE (mapV (kill n) s) (mapV (killL n) (dropL [n] c)):=by
 simp only [mkE,Env.forget,Env.mk.injEq]
 constructor
 ·funext j;rw [getA_mapV _ rfl]
 ·funext j
  rw [getC_mapV,getC_dropL]
  split<;>rfl
theorem mkE_relab (s:List (Nat × AV)) (c:List (Nat × List AV)) (τ τ':List Nat):(mkE s c).relab τ τ'=mkE (mapV (relab τ τ') s) (mapV (relabL τ τ') c):=by
 simp only [mkE,Env.relab,Env.mk.injEq]
 constructor
 ·funext j;rw [getA_mapV _ rfl]
 ·funext j;rw [getC_mapV]
theorem mkE_killn' (s:List (Nat × AV)) (c:List (Nat × List AV)) (p:List Nat→Bool):(mkE s c).killn p=mkE (mapV (killn p) s) (mapV (killnL p) c):=by
 simp only [mkE,Env.killn,Env.mk.injEq]
 constructor
 ·funext j;rw [getA_mapV _ rfl]
 ·funext j;rw [getC_mapV]
section
variable (τ τ' : List Nat)
@[go_sem] theorem relab_lit (v:Value):relab τ τ' (.lit v)=.lit v:=rfl
@[go_sem] theorem relab_none (e:Nat)(r:List AV):relab τ τ' (.sl .none e r)=.sl .none e r:=rfl
@[go_sem] theorem relab_nil (e:Nat)(r:List AV):relab τ τ' (.sl .nil e r)=.sl .nil e r:=rfl
@[go_sem] theorem relab_bor (e:Nat)(r:List AV):relab τ τ' (.sl .bor e r)=.sl .bor e r:=rfl
@[go_sem] theorem relab_gone (e:Nat)(r:List AV):relab τ τ' (.sl .gone e r)=.sl .gone e r:=rfl
@[go_sem] theorem relab_own (t:List Nat)(e:Nat)(r:List AV):relab τ τ' (.sl (.own t) e r)=if t=τ then .sl (.own τ') e r else if t=τ' then .sl .none e r else .sl (.own t) e r:=by
 simp only[relab]
 split
 ·rfl
 ·split<;>rfl
@[go_sem] theorem relab_fr (t:List Nat)(e:Nat)(r:List AV):relab τ τ' (.sl (.fr t) e r)=if t=τ then .sl (.fr τ') e r else if t=τ' then .sl .gone e r else .sl (.fr t) e r:=by
 simp only[relab]
 split
 ·rfl
 ·split<;>rfl
@[go_sem] theorem relab_agg (cs:List AV):relab τ τ' (.agg cs)=.agg (relabL τ τ' cs):=rfl
@[go_sem] theorem relab_tup (cs:List AV):relab τ τ' (.tup cs)=.tup (relabL τ τ' cs):=rfl
@[go_sem] theorem relab_rp (cs:List AV):relab τ τ' (.rp cs)=.rp cs:=rfl
@[go_sem] theorem relab_bp (cs:List AV):relab τ τ' (.bp cs)=.bp cs:=rfl
@[go_sem] theorem relab_lp (c o:Nat):relab τ τ' (.lp c o)=.lp c o:=rfl
@[go_sem] theorem relab_ml (c o n k:Nat)(g:Bool)(e:Nat):relab τ τ' (.ml c o n k g e)=.ml c o n k g e:=rfl
@[go_sem] theorem relab_mp (k:List Value)(v:List AV):relab τ τ' (.mp k v)=.mp k v:=rfl
@[go_sem] theorem relab_mu (t:List Nat)(k:List Value)(v:List AV):relab τ τ' (.mu t k v)=.mu t k v:=rfl
@[go_sem] theorem relab_gl (i:Nat):relab τ τ' (.gl i)=.gl i:=rfl
@[go_sem] theorem relab_gp (i:Nat):relab τ τ' (.gp i)=.gp i:=rfl
@[go_sem] theorem relab_dead:relab τ τ' .dead=.dead:=rfl
@[go_sem] theorem relab_ifc (t:TypeId)(x:AV):relab τ τ' (.ifc t x)=.ifc t (relab τ τ' x):=rfl
@[go_sem] theorem relab_clo (f:Fn) (a b:List AV):relab τ τ' (.clo f a b)=.clo f (relabL τ τ' a) (relabL τ τ' b):=rfl
@[go_sem] theorem relabL_nil:relabL τ τ' []=[]:=rfl
@[go_sem] theorem relabL_cons (x:AV)(xs:List AV):relabL τ τ' (x::xs)=relab τ τ' x::relabL τ τ' xs:=rfl
end
section
variable (p : List Nat → Bool)
@[go_sem] theorem killn_sl (t:Tok)(e:Nat)(r:List AV):killn p (.sl t e r)=.sl t e r:=rfl
@[go_sem] theorem killn_lp (c o:Nat):killn p (.lp c o)=.lp c o:=rfl
@[go_sem] theorem killn_rp (cs:List AV):killn p (.rp cs)=.rp cs:=rfl
@[go_sem] theorem killn_bp (cs:List AV):killn p (.bp cs)=.bp cs:=rfl
@[go_sem] theorem killn_ml (c o n k:Nat)(g:Bool)(e:Nat):killn p (.ml c o n k g e)=.ml c o n k g e:=rfl
@[go_sem] theorem killn_mf (t:List Nat)(al:Bool):killn p (.mf t al)=.mf t al:=rfl
@[go_sem] theorem killn_mp (k:List Value)(v:List AV):killn p (.mp k v)=.mp k v:=rfl
@[go_sem] theorem killn_mu (t:List Nat)(k:List Value)(v:List AV):killn p (.mu t k v)=if p t=true then .dead else .mu t k v:=rfl
@[go_sem] theorem killn_gl (i:Nat):killn p (.gl i)=.gl i:=rfl
@[go_sem] theorem killn_gp (i:Nat):killn p (.gp i)=.gp i:=rfl
@[go_sem] theorem killn_dead:killn p .dead=.dead:=rfl
@[go_sem] theorem killn_agg (cs:List AV):killn p (.agg cs)=.agg (killnL p cs):=rfl
@[go_sem] theorem killn_tup (cs:List AV):killn p (.tup cs)=.tup (killnL p cs):=rfl
@[go_sem] theorem killn_ifc (t:TypeId)(x:AV):killn p (.ifc t x)=.ifc t (killn p x):=rfl
@[go_sem] theorem killn_clo (f:Fn) (a b:List AV):killn p (.clo f a b)=.clo f (killnL p a) (killnL p b):=rfl
@[go_sem] theorem killnL_nil:killnL p []=[]:=rfl
@[go_sem] theorem killnL_cons (x:AV)(xs:List AV):killnL p (x::xs)=killn p x::killnL p xs:=rfl
variable (τ : List Nat) (ks : List Value) (vs : List AV)
@[go_sem] theorem renew_lit (v:Value):renew τ ks vs (.lit v)=.lit v:=rfl
@[go_sem] theorem renew_sl (t:Tok)(e:Nat)(r:List AV):renew τ ks vs (.sl t e r)=.sl t e r:=rfl
@[go_sem] theorem renew_lp (c o:Nat):renew τ ks vs (.lp c o)=.lp c o:=rfl
@[go_sem] theorem renew_rp (cs:List AV):renew τ ks vs (.rp cs)=.rp cs:=rfl
@[go_sem] theorem renew_bp (cs:List AV):renew τ ks vs (.bp cs)=.bp cs:=rfl
@[go_sem] theorem renew_ml (c o n k:Nat)(g:Bool)(e:Nat):renew τ ks vs (.ml c o n k g e)=.ml c o n k g e:=rfl
@[go_sem] theorem renew_mf (t:List Nat)(al:Bool):renew τ ks vs (.mf t al)=.mf t al:=rfl
@[go_sem] theorem renew_mp (k:List Value)(v:List AV):renew τ ks vs (.mp k v)=.mp k v:=rfl
@[go_sem] theorem renew_mu (t:List Nat)(k:List Value)(v:List AV):renew τ ks vs (.mu t k v)=if t=τ then .mu t ks vs else .mu t k v:=rfl
@[go_sem] theorem renew_gl (i:Nat):renew τ ks vs (.gl i)=.gl i:=rfl
@[go_sem] theorem renew_dead:renew τ ks vs .dead=.dead:=rfl
@[go_sem] theorem renew_agg (cs:List AV):renew τ ks vs (.agg cs)=.agg (renewL τ ks vs cs):=rfl
@[go_sem] theorem renewL_nil:renewL τ ks vs []=[]:=rfl
@[go_sem] theorem renewL_cons (x:AV)(xs:List AV):renewL τ ks vs (x::xs)=renew τ ks vs x::renewL τ ks vs xs:=rfl
end
end Go.Proofs.YtelbgkknneljeaaGreatDoor.VL
end

section
set_option maxHeartbeats 4000000
namespace Go.Proofs.YtelbgkknneljeaaGreatDoor.VL
open Go.RowKit Go.Proofs Go.Sort
abbrev f_q149:FuncId:=149
theorem rep_nums {E:RE}:∀ {l:List Nat} {vs:List Value},RepL E (l.map avU) vs→vs=l.map SQ.enc
 | [],vs,h=>by simpa[RepL] using h
 | a::l,vs,h=>by
  simp only[List.map_cons,RepL,avU,Rep] at h
  obtain ⟨v,ws,rfl,rfl,h2⟩:=h
  rw[rep_nums h2]
  rfl
theorem flat_nums:∀ l:List Nat,flat (l.map SQ.enc)=l.map SQ.enc
 | []=>rfl
 | a::l=>by
  have:=flat_nums l
  simp only[flat,List.map_cons,List.flatMap_cons] at this ⊢
  rw[this]
  rfl
theorem repL_nums (E:RE):∀ l:List Nat,RepL E (l.map avU) (l.map SQ.enc)
 | []=>by simp [RepL]
 | a::l=>by
  simp only [List.map_cons,RepL]
  exact ⟨_,_,rfl,by simp only [avU,Rep,SQ.enc],repL_nums E l⟩
theorem C_AppendSeq (t:Tok) (e:Nat) (l:List Nat) (ht:t=.none∨l=[]) (h0:l≠[]) (hl:l.length≤4294967296) :
  AC Tryz.prog f_q149 [.sl .nil 0 [],.clo (.func f_q139) [] [.rp [.sl t e (l.map avU)]]] (.sl (.fr [0]) 1 (l.map avU)):=by
 obtain rfl:t=.none:=ht.resolve_right h0
 refine ⟨rfl,enters_of Tryz.func149 (by kernel_rfl) (by kernel_rfl),fun R cargs hR hh hg ha=>?_⟩
 simp only [RepL,Rep] at ha
 obtain ⟨_,_,rfl,⟨A,cap,vs,rfl,_,hvs,_,_,rfl,rfl⟩,_,_,rfl,⟨fs,cs,rfl,rfl,w1,ws1,rfl,⟨Bs,Bo,us,rfl,⟨sv,us',rfl,⟨A2,cap2,vs2,rfl,hcap2,hr2,_,_,hat2⟩,rfl⟩,hat⟩,rfl⟩,rfl⟩:=ha
 have hlen:(l.map avU).length=l.length:=by simp
 have hne:l.map avU≠[]:=by simpa using h0
 obtain ⟨b,o,rfl,hat3⟩:=hat2 hne
 obtain rfl:=rep_nums hr2
 rw [flat_nums] at hat3
 have hBs:=hat 0 _ rfl
 simp only [Nat.add_zero] at hBs
 have hlt:=hR.S _ _ hBs.1
 have hcell:∀ j,j<l.length→R.w.cell? ⟨b,o+j,none⟩=some (.int .u32 ((l[j]?.getD 0:Nat):Int)):=by
  intro j hj
  refine (hat3 j _ ?_).2
  rw [List.getElem?_map,List.getElem?_eq_getElem hj]
  rfl
 have hb:b<R.w.heap.size:=by
  obtain ⟨x,hx⟩:∃ x,(l.map SQ.enc)[0]?=some x:=by
   cases l with
   | nil=>exact absurd rfl h0
   | cons a l=>exact ⟨_,rfl⟩
  exact hR.S _ _ (hat3 0 _ hx).1
 rw [hlen] at hBs
 have hN:SQ.Nums R.w.heap.size R.w (.slice (some ⟨b,o,none⟩) l.length cap2) l:=⟨_,cap2,rfl,fun _=>⟨b,o,rfl,hb,hcell⟩⟩
 have main:=callsIn_wide.1 (SQ.appendSeq_in _ 3 trivial trivial rfl (Nat.le_refl _) Bs Bo _ l hl R.w hlt hBs.2 hN)
 refine main.mono ?_
 rintro e w' ⟨v,rfl,hown,hone,hbl⟩
 obtain ⟨hxl,hcase⟩:=hown
 rcases hcase with ⟨_,hz⟩ | ⟨g,cap3,cur,rfl,hbase,hgb,q1,q2,q3,q4⟩
 ·exact absurd (List.eq_nil_of_length_eq_zero hz) h0
 ·have hgl:g<w'.heap.size:=(Array.getElem?_eq_some_iff.1 hgb).1
  refine ⟨_,{ R with w:=w',own:=fun k τ=>k=g∧τ=[0] },rfl,rfl,?_,⟨⟨hbl.os,hbl.tape,hbl.output,hbl.size,fun k hk _=>hbl.block k hk⟩,hR.MS,fun b o _=>Iff.rfl,fun b o hs=>Nat.lt_of_lt_of_le (hR.S b o hs) hbl.size,rfl,fun k τ ho=>?_,fun k τ τ' h1 h2=>by rw [h1.2,h2.2],fun c b hc=>hc⟩,fun c b hc=>?_⟩
  ·simp only [Rep]
   refine ⟨_,cap3,l.map SQ.enc,by rw [hlen],by rw [hlen];exact q1,repL_nums _ _,fun u hu=>?_,fun u hu=>?_,.inr ⟨g,cur,_,rfl,fun j u hj=>⟨trivial,?_⟩,hgb,q2,by rw [q3],by simp,fun o hs=>?_,hone g cur _ _ rfl hgb⟩⟩
   ·obtain ⟨a,_,rfl⟩:=List.mem_map.1 hu
    rfl
   ·rw [flat_nums] at hu
    obtain ⟨a,_,rfl⟩:=List.mem_map.1 hu
    rfl
   ·rw [flat_nums,← q4,List.getElem?_take] at hj
    split at hj
    ·simp only [World.cell?,hgb,Nat.zero_add]
     simpa using hj
    ·cases hj
   ·have:=hR.S g o hs
    omega
  ·obtain ⟨rfl,_⟩:=ho
   exact ⟨hbase,hgl⟩
  ·obtain ⟨cs,_,_,e,_⟩:=hh c b hc
   cases e
theorem C_AppendSeq0 (t:Tok) (e:Nat):AC Tryz.prog f_q149 [.sl .nil 0 [],.clo (.func f_q139) [] [.rp [.sl t e []]]] (.sl .none 1 []):=by
 refine ⟨rfl,enters_of Tryz.func149 (by kernel_rfl) (by kernel_rfl),fun R cargs hR hh hg ha=>?_⟩
 simp only [RepL,Rep] at ha
 obtain ⟨_,_,rfl,⟨A,cap,vs,rfl,_,hvs,_,_,rfl,rfl⟩,_,_,rfl,⟨fs,cs,rfl,rfl,w1,ws1,rfl,⟨Bs,Bo,us,rfl,⟨sv,us',rfl,⟨A2,cap2,vs2,rfl,hcap2,hr2,_,_,hat2⟩,rfl⟩,hat⟩,rfl⟩,rfl⟩:=ha
 have hBs:=hat 0 _ rfl
 simp only [Nat.add_zero] at hBs
 have hlt:=hR.S _ _ hBs.1
 have hN:SQ.Nums R.w.heap.size R.w (.slice A2 ([]:List AV).length cap2) []:=⟨_,cap2,rfl,fun h=>absurd rfl h⟩
 have main:=callsIn_wide.1 (SQ.appendSeq_in _ 3 trivial trivial rfl (Nat.le_refl _) Bs Bo _ [] (by simp) R.w hlt hBs.2 hN)
 refine main.mono ?_
 rintro e w' ⟨v,rfl,hown,hone,hbl⟩
 refine ⟨v,{ R with w:=w' },rfl,rfl,?_,⟨⟨hbl.os,hbl.tape,hbl.output,hbl.size,fun k hk _=>hbl.block k hk⟩,hR.MS,fun b o _=>Iff.rfl,fun b o hs=>Nat.lt_of_lt_of_le (hR.S b o hs) hbl.size,rfl,fun g τ ho=>(hR.own g τ ho).elim,fun g τ τ' ho=>(hR.own g τ ho).elim,fun c b hc=>hc⟩,fun c b hc=>?_⟩
 ·obtain ⟨_,hcase⟩:=hown
  simp only [Rep]
  rcases hcase with ⟨rfl,_⟩ | ⟨g,cap3,cur,rfl,_⟩
  ·exact ⟨none,0,[],rfl,Nat.le_refl _,by simp [RepL],by simp,by simp [flat],fun h=>absurd rfl h⟩
  ·exact ⟨_,cap3,[],rfl,Nat.zero_le _,by simp [RepL],by simp,by simp [flat],fun h=>absurd rfl h⟩
 ·obtain ⟨cs,_,_,e,_⟩:=hh c b hc
  cases e
end Go.Proofs.YtelbgkknneljeaaGreatDoor.VL
end

section
set_option maxHeartbeats 4000000
namespace Go.Proofs.YtelbgkknneljeaaGreatDoor.VL
open Go.RowKit Go.Proofs Go.Sort
theorem C_IndexFuncAddr {f : FuncId} {fst caps : List AV} {asf : Nat → List AV} {p : Nat → Bool} (t : Tok) (e : Nat) (l : List Nat) (hf : frB t = false) (he : e = 1 ∨ l = []) (hl : l.length < 9223372036854775808)
    (hlow : ∀ n, mapO (lower (getC []) 8) (fst ++ [(avU n)] ++ caps) = some (asf n)) (hAC : ∀ n ∈ l, AC Tryz.prog f (asf n) (.lit (.bool (p n)))) :
    AC Tryz.prog f_q137 [.sl t e (l.map avU), .clo (.func f) fst caps] (.lit (.int .i64 (idxOf p l))) := by
  refine ac_q137 ?_ (Nat.le_add_left 2 17)
  simp only [go_sem, c_q137]
  refine aw_loop (fun m E => ∃ k, k + m = l.length ∧ (∀ (j : Nat) (y : Nat), j < k → l[j]? = some y → p y = false) ∧ E = mkE [(0, .sl t e (l.map avU)), (1, .clo (.func f) fst caps), (7, .lit (.int .i64 l.length)), (8, .lit (.int .i64 (k : Nat)))] []) l.length ?_ ?_
  · exact ⟨0, by omega, fun j y hj => absurd hj (Nat.not_lt_zero j), by simp only [go_sem, Int.ofNat_zero]⟩
  · rintro m _ ⟨k, hk, hall, rfl⟩
    simp only [go_sem]
    refine condX_of (fun h => ?_) (fun h => ?_)
    · have hkl : k < l.length := by simpa using h
      obtain rfl : e = 1 := he.resolve_right (fun h => by rw [h] at hkl; simp at hkl)
      obtain ⟨x, hx⟩ : ∃ x, l[k]? = some x := ⟨l[k], List.getElem?_eq_getElem hkl⟩
      have hw := wrap_succ k (by omega)
      have hlx := hlow x
      simp only [avU, avStr, avU] at hlx
      simp only [go_sem, h, hx, Int.toNat_natCast, Int.natCast_nonneg, List.getElem?_map, avRow_some, hf, avU, avStr, avU, hlx]
      refine callX_of (hAC x (List.mem_of_getElem? hx)) ?_
      cases hp : p x
      · simp only [go_sem, hw]
        refine ⟨m - 1, by omega, k + 1, by omega, fun j y hj hy => ?_, rfl⟩
        by_cases hjk : j = k
        · subst hjk
          rw [hx] at hy
          injection hy with hy
          rw [← hy]
          exact hp
        · exact hall j y (by omega) hy
      · simp only [go_sem, idxOf_some hx hp hall]
    · have hkl : k = l.length := by have : ¬ k < l.length := by simpa using h
                                    omega
      have e : idxOf p l = -1 := idxOf_none fun i x hi => hall i x (by have := (List.getElem?_eq_some_iff.1 hi).1; omega) hi
      simp only [go_sem, h, e]
theorem C_member_1 (y:Nat)(hy:y<4294967296):AC Tryz.prog f_q108 [avU y] (.lit (.bool (!hostN y))):=by
 refine ac_q108 ?_ (Nat.le_add_left 1 _)
 simp only[go_sem,c_q108,avU]
 refine callX_of (C_host y hy) ?_
 simp only[go_sem]
theorem C_has_member_1 (t:Tok) (e:Nat) (l:List Nat) (ht:lowTok t=t) (hf:frB t=false) (he:e=1∨l=[]) (hl:l.length<9223372036854775808) (hx:∀ y∈l,y<4294967296) :
  AC Tryz.prog f_q107 [.sl t e (l.map avU),.clo (.func f_q108) [] []] (.lit (.bool (l.any fun y=>!hostN y))):=by
 refine ac_q107 ?_ (Nat.le_add_left 2 _)
 simp only [go_sem,c_q107,avStr,ht]
 refine callX_of (C_IndexFuncAddr (asf:=fun y=>[avU y]) (p:=fun y=>!hostN y) t e l hf he hl (fun y=>?_) (fun y hy=>C_member_1 y (hx y hy))) ?_
 ·simp only [go_sem,avU,lower]
 ·simp only [go_sem,any_idx]
theorem C_Values (t:Tok) (e:Nat) (rows:List AV) (ht:t=.none∨t=.nil):AC Tryz.prog f_q110 [.sl t e rows] (.clo (.func f_q139) [] [.rp [.sl t e rows]]):=by
 refine ac_q110 ?_ (Nat.le_add_left 1 _)
 rcases ht with rfl | rfl<;>simp only [go_sem,c_q110]<;>rfl
theorem C_Collect (t:Tok) (e:Nat) (l:List Nat) (ht:t=.none∨l=[]) (h0:l≠[]) (hl:l.length≤4294967296) :
  AC Tryz.prog f_q138 [.clo (.func f_q139) [] [.rp [.sl t e (l.map avU)]]] (.sl (.fr [4,0]) 1 (l.map avU)):=by
 refine ac_q138 ?_ (Nat.le_add_left 1 _)
 simp only [go_sem,c_q138]
 refine callX_of (C_AppendSeq t e l ht h0 hl) ?_
 simp only [go_sem]
theorem C_Collect0 (t:Tok) (e:Nat):AC Tryz.prog f_q138 [.clo (.func f_q139) [] [.rp [.sl t e []]]] (.sl .none 1 []):=by
 refine ac_q138 ?_ (Nat.le_add_left 1 _)
 simp only [go_sem,c_q138]
 refine callX_of (C_AppendSeq0 t e) ?_
 simp only [go_sem]
def zs (l:List Nat):List Int:=l.map fun (n:Nat)=>(n:Int)
theorem zs_av (l:List Nat):(zs l).map aI=l.map avU:=by
 unfold zs
 rw[List.map_map]
 exact List.map_congr_left fun n _=>rfl
def sorted (l:List Nat):List Int:=(zs l).mergeSort (fun x y=>decide (x≤y))
theorem C_Sorted (t:Tok) (e:Nat) (l:List Nat) (ht:t=.none∨l=[]) (hl:l.length≤255) :
  AC Tryz.prog f_q109 [.clo (.func f_q139) [] [.rp [.sl t e (l.map avU)]]] (.sl .none 1 ((sorted l).map aI)):=by
 by_cases h0:l=[]
 ·subst h0
  refine ac_q109 ?_ (Nat.le_add_left 1 _)
  simp only [go_sem,c_q109,List.map_nil]
  refine callX_of (C_Collect0 t e) ?_
  simp only [go_sem]
  refine shiftX_refl ?_
  simp only [go_sem]
  refine callX_of (C_Sort0 _ _) ?_
  simp only [go_sem]
  simp [sorted,zs]
 ·refine ac_q109 ?_ (Nat.le_add_left 1 _)
  simp only [go_sem,c_q109]
  refine callX_of (C_Collect t e l ht h0 (by omega)) ?_
  rw [← zs_av]
  have hz0:zs l≠[]:=by simpa [zs] using h0
  have hzl:(zs l).length=l.length:=by simp [zs]
  rw [← hzl] at hl
  unfold sorted
  generalize zs l=z at hz0 hl
  simp only [go_sem]
  refine shiftX_of (VS.adopt (p:=.slot 3) (g:=false) 0 rfl (by simpa using hz0) (fun r hr=>?_) (by decide) rfl) ?_
  ·obtain ⟨n,_,rfl⟩:=List.mem_map.1 hr
   rfl
  ·rintro _ ⟨cap,j,hcap,rfl⟩
   rw [cells_ints]
   simp only [List.length_map] at hcap ⊢
   simp only [Env.set]
   simp only [mkE_strip,mkE_put,mkE_putc]
   have ht:Tl (List.replicate j .dead):=fun x hx=>.inl (List.eq_of_mem_replicate hx)
   generalize List.replicate j AV.dead=tl at ht ⊢
   have hS:=C_SortL (cap:=cap) ht hl
   have hm:(z.mergeSort (fun x y=>decide (x≤y))).length=z.length:=List.length_mergeSort _
   generalize z.mergeSort (fun x y=>decide (x≤y))=l' at hS hm ⊢
   simp only [go_sem]
   refine call0_of ht rfl hS ?_
   simp only [go_sem]
   have hret:∀ C,retM C 7 0 z.length cap false 1 (some (l'.map aI++tl))=some (.sl .none 1 (l'.map aI)):=by
    intro C
    rw [← hm,retM_some (l:=l'.map aI) 0 l'.length cap false 1 _ (show 0+l'.length * 1≤(l'.map aI++tl).length∧l'.length≤cap∧(false=true∨(1:Nat)=1) from ⟨by simp,by omega,.inr rfl⟩) ?_,chunk_ints]
    rw [List.drop_zero,Nat.mul_one,List.take_append_of_le_length (by simp),List.take_of_length_le (by simp)]
    refine mapO_id fun x hx=>?_
    obtain ⟨n,_,rfl⟩:=List.mem_map.1 hx
    rfl
   simp only [hret]
   rfl
theorem sorted_len (l:List Nat):(sorted l).length=l.length:=by simp[sorted,zs,List.length_mergeSort]
theorem sorted_lt (l:List Nat) (h:l.Nodup):(sorted l).Pairwise (·<·):=by
 have hz:(zs l).Nodup:=by
  unfold zs
  rw [List.nodup_iff_pairwise_ne,List.pairwise_map]
  exact (List.nodup_iff_pairwise_ne.1 h).imp fun h e=>h (by omega)
 have hp:=List.mergeSort_perm (zs l) (fun x y=>decide (x≤y))
 have hn:(sorted l).Nodup:=hp.nodup_iff.2 hz
 have hs:(sorted l).Pairwise (fun a b=>decide (a≤b)=true):=List.pairwise_mergeSort (le:=fun x y:Int=>decide (x≤y)) (by simp;omega) (by simp;omega) (zs l)
 rw [List.nodup_iff_pairwise_ne] at hn
 exact (hs.and hn).imp fun ⟨h1,h2⟩=>by simp at h1;omega
theorem C_CompactN (l:List Int) (hl:l.length≤255) (hs:l.Pairwise (·<·)):AC Tryz.prog f_q35 [.sl .none 1 (l.map aI)] (.sl .none 1 (l.map aI)):=by
 refine ac_q35 ?_ (Nat.le_add_left 1 _)
 simp only [go_sem,c_q35,List.length_map]
 by_cases h2:l.length<2
 ·have f1:((l.length:Int)<2)=True:=eq_true (by omega)
  simp only [go_sem,f1,decide_true]
  refine shiftX_refl ?_
  simp only [go_sem]
 have f1:((l.length:Int)<2)=False:=eq_false (by omega)
 simp only [go_sem,f1,decide_false]
 refine aw_loop (fun m E=>∃ i:Nat,1≤i∧i≤l.length∧l.length - i≤m∧E=mkE [(0,.sl .none 1 (l.map aI)),(3,iI i)] []) l.length ?_ ?_
 ·exact ⟨1,Nat.le_refl _,by omega,by omega,by simp only [go_sem,Int.natCast_one]⟩
 ·rintro m _ ⟨i,h1,hi,hm,rfl⟩
  by_cases hin:i<l.length
  ·have f2:((i:Int)<(l.length:Int))=True:=eq_true (by omega)
   have w1:=iwn (i - 1) (by omega:(i:Int) - 1=((i - 1:Nat):Int)) (by omega)
   have w2:=iwn (i+1) (by omega:(i:Int)+1=((i+1:Nat):Int)) (by omega)
   have g1:l[i]?=some l[i]:=List.getElem?_eq_getElem hin
   have g2:l[i - 1]?=some l[i - 1]:=List.getElem?_eq_getElem (by omega)
   have hlt:l[i - 1]<l[i]:=List.pairwise_iff_getElem.1 hs (i - 1) i (by omega) hin (by omega)
   have f3:(l[i]==l[i - 1])=false:=by simp;omega
   have hr:=fun x=>avRow_some 1 .none (AV.lit x) rfl
   simp only [go_sem,f2,decide_true,w1,List.length_map,List.getElem?_map,g1,g2,hr,aI,Option.map_some,Int.natCast_nonneg,Int.toNat_natCast,f3,w2]
   exact ⟨m - 1,by omega,i+1,by omega,by omega,by omega,rfl⟩
  ·have f2:((i:Int)<(l.length:Int))=False:=eq_false (by omega)
   simp only [go_sem,f2,decide_false,List.length_map]
theorem C_member (w:NW) (h:w.OK) (i:Nat) (x:NM) (hx:w.mbs[i]?=some x) (hv:mbOf w x≠some 1) :
  AC Tryz.prog f_q63 [.agg (netV w),.lit (.int .i64 (i:Nat))] (amiss (mbOf w x)):=by
 have hi:i<w.mbs.length:=(List.getElem?_eq_some_iff.1 hx).1
 have hm:x∈w.mbs:=List.mem_of_getElem? hx
 refine ac_q63 ?_ (Nat.le_add_left 2 _) (by unfold mbOf;split<;>(try split)<;>(try split)<;>(try split)<;>rfl)
 have gm:(0∈GS)=True:=eq_true (by simp [GS])
 simp only [go_sem,c_q63,netV,Int.toNat_natCast,Int.natCast_nonneg,List.getElem?_map,hx,rowAgg,avMb,avU,List.length_map]
 refine callX_of (C_place x.lk w.lks.length) ?_
 cases h2:placeN x.lk w.lks.length
 ·simp only [go_sem,h2,g_none,mbOf,amiss,Bool.not_false]
 simp only [go_sem,h2,Bool.not_true]
 refine callX_of (C_Group x.g (h.mbg x hm)) ?_
 cases h3:groupN x.g
 ·simp only [go_sem,h2,h3,g_kind,mbOf,amiss,Bool.not_false,Bool.true_or,Bool.true_eq_false]
 simp only [go_sem,h3,Bool.not_true]
 refine callX_of (C_has_member_1 .none 1 x.src rfl rfl (.inl rfl) (h.mbl x hm) (h.mbs x hm)) ?_
 cases h4:x.src.any fun y=>!hostN y
 case true=>simp only [go_sem,h2,h3,h4,g_kind,mbOf,amiss,Bool.not_true,Bool.false_or,Bool.true_eq_false]
 simp only [go_sem,h4,List.length_map]
 by_cases h5:4<x.src.length
 ·have f5:(4<(x.src.length:Int))=True:=eq_true (by omega)
  simp only [go_sem,f5,gm,h2,h3,h4,h5,mbOf,amiss,decide_true,Bool.not_true,Bool.false_or,Bool.true_eq_false,Bool.false_eq_true]
 have f5:(4<(x.src.length:Int))=False:=eq_false (by omega)
 have hnd:x.src.Nodup:=by
  apply Classical.byContradiction
  intro hn
  apply hv
  simp [mbOf,h2,h3,h5,hn]
  simpa using h4
 simp only [go_sem,f5,decide_false]
 refine callX_of (C_Values .none 1 (x.src.map avU) (.inl rfl)) ?_
 simp only [go_sem]
 refine callX_of (C_Sorted .none 1 x.src (.inl rfl) (by omega)) ?_
 simp only [go_sem]
 refine shiftX_refl ?_
 have hl:=sorted_len x.src
 have f6:((x.src.length:Int)<(x.src.length:Int))=False:=eq_false (by omega)
 simp only [go_sem]
 refine callX_of (C_CompactN (sorted x.src) (by omega) (sorted_lt x.src hnd)) ?_
 simp only [go_sem,List.length_map,hl,f6,decide_false,h2,h3,h4,h5,hnd,mbOf,amiss,Bool.not_true,Bool.false_or,Bool.true_eq_false,Bool.false_eq_true,decide_true]
end Go.Proofs.YtelbgkknneljeaaGreatDoor.VL
end

section
set_option maxHeartbeats 4000000
namespace Go.Proofs.YtelbgkknneljeaaGreatDoor.VL
open Go.RowKit Go.Proofs
def fnN:Nat→FuncId
 | 0=>f_q57
 | 1=>f_q58
 | 2=>f_q59
 | 3=>f_q60
 | 4=>f_q61
 | 5=>f_q62
 | _=>f_q63
theorem W_at (w:NW) (h:w.OK) (k i:Nat) (hi:i<lenN w k) (hv:6≤k→vAt w k i≠some 1):AC Tryz.prog (fnN k) [.agg (netV w),.lit (.int .i64 (i:Nat))] (amiss (vAt w k i)):=by
 match k,hi,hv with
 | 0,hi,_=>
  have e:=List.getElem?_eq_getElem (show i<w.rts.length from hi)
  have:=W_router w h i _ e
  simpa only [vAt,fnN,e,Option.bind_some] using this
 | 1,hi,_=>
  have e:=List.getElem?_eq_getElem (show i<w.lks.length from hi)
  have:=W_link w h i _ e
  simpa only [vAt,fnN,e,Option.bind_some] using this
 | 2,hi,_=>
  have e:=List.getElem?_eq_getElem (show i<w.pts.length from hi)
  have:=W_port w h i _ e
  simpa only [vAt,fnN,e,Option.bind_some] using this
 | 3,hi,_=>
  have e:=List.getElem?_eq_getElem (show i<w.ros.length from hi)
  have:=W_route w h i _ e
  simpa only [vAt,fnN,e,Option.bind_some] using this
 | 4,hi,_=>
  have e:=List.getElem?_eq_getElem (show i<w.rgs.length from hi)
  have:=W_ranges w h i _ e
  simpa only [vAt,fnN,e,Option.bind_some] using this
 | 5,hi,_=>
  have e:=List.getElem?_eq_getElem (show i<w.scs.length from hi)
  have:=W_source w h i _ e
  simpa only [vAt,fnN,e,Option.bind_some] using this
 | k+6,hi,hv=>
  have e:=List.getElem?_eq_getElem (show i<w.mbs.length from hi)
  have hv2:=hv (by omega)
  simp only [vAt,e,Option.bind_some] at hv2
  have:=C_member w h i _ e hv2
  simpa only [vAt,fnN,e,Option.bind_some] using this
def rowK (w:NW) (k:Nat):AV:=.agg [.lit (.int .i64 (lenN w k:Nat)),.lit (.int .i64 (mostN k:Nat)),.clo (.func (fnN k)) [.agg (netV w)] []]
def rowsV (w:NW):List AV:=[rowK w 0,rowK w 1,rowK w 2,rowK w 3,rowK w 4,rowK w 5,rowK w 6]
theorem rowsV_get (w:NW) (k:Nat) (h:k<7):(rowsV w)[k]?=some (.agg [.lit (.int .i64 (lenN w k:Nat)),.lit (.int .i64 (mostN k:Nat)),.clo (.func (fnN k)) [.agg (netV w)] []]):=by
 match k,h with
 | 0,_=>rfl
 | 1,_=>rfl
 | 2,_=>rfl
 | 3,_=>rfl
 | 4,_=>rfl
 | 5,_=>rfl
 | 6,_=>rfl
 | k+7,h=>omega
theorem low_net (C:Nat→Option (List AV)) (n:Nat) (w:NW):mapO (lower C (n+1)) (netV w)=some (netV w):=by
 simp only [netV,mapO_cons,mapO_nil,lower_sl,lowTok_none,catO_some]
theorem lenN_lt (w:NW)(h:w.OK)(k:Nat):lenN w k<9223372036854775808:=by
 unfold lenN
 split
 ·exact h.l1
 ·exact h.l2
 ·exact h.l3
 ·exact h.l4
 ·exact h.l5
 ·exact h.l6
 ·exact h.l7
theorem scanK_hit (w:NW)(k n g:Nat)(h:vList w k 0=some g):scanK w (n+1) k=some g:=by simp only[scanK,h]
theorem scanK_go (w:NW)(k n:Nat)(h:vList w k 0=none):scanK w (n+1) k=scanK w n (k+1):=by simp only[scanK,h]
theorem C_cValid (w:NW) (h:w.OK) (hv:∀ i,i<w.mbs.length→vAt w 6 i≠some 1):AC Tryz.prog f_q32 [.agg (netV w)] (amiss (vNet w)):=by
 refine ac_q32 ?_ (Nat.le_add_left 1 _) (by cases vNet w<;>rfl)
 have gm:(0∈GS)=True:=eq_true (by simp [GS])
 simp only [go_sem,c_q32,netV,List.length_map]
 refine aw_loop (fun m E=>∃ k:Nat,k+m=7∧scanK w m k=vNet w∧E=mkE [(52,.sl (.own [52]) 3 (rowsV w)),(53,.lit (.int .i64 7)),(54,.lit (.int .i64 (k:Nat)))] [(1,netV w),(3,netV w)]) 7 ?_ ?_
 ·exact ⟨0,rfl,rfl,by simp only [go_sem];rfl⟩
 ·rintro m _ ⟨k,hk,hs,rfl⟩
  by_cases hk7:k<7
  ·have f1:((k:Int)<7)=True:=eq_true (by omega)
   have hw:=wrap_succ k (by omega)
   obtain ⟨m,rfl⟩:∃ m',m=m'+1:=⟨m - 1,by omega⟩
   have hr:=fun cs=>avRow_some 3 (.own [52]) (AV.agg cs) rfl
   have hlen:=lenN_lt w h k
   simp only [go_sem,f1,decide_true,rowsV_get w k hk7,hr,Int.toNat_natCast,Int.natCast_nonneg]
   refine aw_loop (fun q E=>∃ i:Nat,i+q=lenN w k∧vList w k i=vList w k 0∧E=mkE [(5,.lp 5 0),(52,.sl (.own [52]) 3 (rowsV w)),(53,.lit (.int .i64 7)),(54,.lit (.int .i64 (k:Nat))),(59,.lit (.int .i64 (lenN w k:Nat))),(60,.lit (.int .i64 (i:Nat)))] [(1,netV w),(3,netV w),(5,[.lit (.int .i64 (lenN w k:Nat)),.lit (.int .i64 (mostN k:Nat)),.clo (.func (fnN k)) [.agg (netV w)] []])]) (lenN w k) ?_ ?_
   ·exact ⟨0,by omega,rfl,by simp only [go_sem,Int.natCast_zero]⟩
   ·rintro q _ ⟨i,hi,hvi,rfl⟩
    by_cases hil:i<lenN w k
    ·have f2:((i:Int)<(lenN w k:Int))=True:=eq_true (by omega)
     have hw2:=wrap_succ i (by omega)
     by_cases hm:mostN k≤i
     ·have f3:((mostN k:Int)≤(i:Int))=True:=eq_true (by omega)
      have e:vNet w=some 0:=by rw [← hs];exact scanK_hit w k m _ (by rw [← hvi];exact vList_many w k i hil hm)
      simp only [go_sem,f2,f3,decide_true,gm,e,amiss]
     ·have f3:((mostN k:Int)≤(i:Int))=False:=eq_false (by omega)
      simp only [go_sem,f2,f3,decide_true,decide_false,low_net]
      refine callX_of (W_at w h k i hil (fun h6=>?_)) ?_
      ·obtain rfl:k=6:=by omega
       exact hv i hil
      cases hva:vAt w k i with
      | some g=>
       have e:vNet w=some g:=by rw [← hs];exact scanK_hit w k m _ (by rw [← hvi];exact vList_some w k i g hil (by omega) hva)
       simp only [go_sem,amiss,e]
      | none=>
       simp only [go_sem,amiss,hw2]
       exact ⟨q - 1,by omega,i+1,by omega,by rw [← hvi];exact (vList_none w k i hil (by omega) hva).symm,rfl⟩
    ·have f2:((i:Int)<(lenN w k:Int))=False:=eq_false (by omega)
     simp only [go_sem,f2,decide_false,hw]
     exact ⟨m,by omega,k+1,by omega,by rw [← hs];exact (scanK_go w k m (by rw [← hvi];exact vList_end w k i (by omega))).symm,rfl⟩
  ·have f1:((k:Int)<7)=False:=eq_false (by omega)
   obtain rfl:m=0:=by omega
   rw [← hs]
   simp only [go_sem,f1,decide_false,scanK,amiss]
end Go.Proofs.YtelbgkknneljeaaGreatDoor.VL
end

section
set_option maxHeartbeats 4000000
namespace Go.Proofs.YtelbgkknneljeaaGreatDoor.VL
open Go.RowKit Go.Proofs
theorem or_tab:((List.range 32).all fun k=>decide (mskN k|||2 ^ (31 - k)=mskN (k+1)))=true:=by decide+kernel
theorem or_row (k:Nat)(h:k<32):mskN k|||2 ^ (31 - k)=mskN (k+1):=by
 have:=or_tab
 simp only[List.all_eq_true,List.mem_range,decide_eq_true_eq] at this
 exact this k h
theorem nat_mod32 (y:Nat)(h:y<4294967296):(y:Int) % 4294967296=(y:Int):=by omega
theorem C_rMask (b:Int):AC Tryz.prog f_q77 [.lit (.int .i64 b)] (avU (mskN (cl32 b))):=by
 refine ac_q77 ?_ (Nat.le_add_left 1 _)
 simp only [go_sem,c_q77]
 refine aw_loop (fun m E=>∃ k:Nat,k+m=32∧k≤cl32 b∧E=mkE [(0,.lit (.int .i64 b)),(3,avU (mskN k)),(4,.lit (.int .i64 (k:Nat)))] []) 32 ?_ ?_
 ·exact ⟨0,by omega,by omega,by simp only [go_sem];rfl⟩
 ·rintro m _ ⟨k,hk,hkb,rfl⟩
  have hc:=cl32_le b
  by_cases h1:(k:Int)<b
  ·have e1:((k:Int)<b)=True:=eq_true h1
   by_cases h2:k<32
   ·have e2:((k:Int)<32)=True:=eq_true (by omega)
    have w1:IntKind.i64.wrap (31 - (k:Int))=31 - (k:Int):=by rw [IntKind.wrap_i64];omega
    have w2:IntKind.u64.wrap (31 - (k:Int))=31 - (k:Int):=by
     have:IntKind.u64.wrap (31 - (k:Int))=(31 - (k:Int)) % 18446744073709551616:=by simp [IntKind.wrap,IntKind.bits,IntKind.signed]
     rw [this]
     omega
    have b4:=avBin_shl 42 .u32 .u64 1 (31 - (k:Int)) (by omega) (by simp [IntKind.bits];omega)
    have b5:IntKind.u32.wrap (1 * 2 ^ (31 - (k:Int)).toNat)=((2 ^ (31 - k):Nat):Int):=by
     have e:(31 - (k:Int)).toNat=31 - k:=by omega
     have hp2:2 ^ (31 - k)≤2 ^ 31:=Nat.pow_le_pow_right (by decide) (by omega)
     have e2:(1 * 2 ^ (31 - k):Int)=((2 ^ (31 - k):Nat):Int):=by simp
     rw [e,e2,IntKind.wrap_u32]
     exact nat_mod32 _ (Nat.lt_of_le_of_lt hp2 (by decide))
    have b6:bits .or .u32 (mskN k:Nat) ((2 ^ (31 - k):Nat):Int)=((mskN (k+1):Nat):Int):=by
     have hp2:2 ^ (31 - k)≤2 ^ 31:=Nat.pow_le_pow_right (by decide) (by omega)
     rw [u32_or_nat _ _ (mskN_lt _) (Nat.lt_of_le_of_lt hp2 (by decide)),or_row k h2]
    have w3:=wrap_succ k (by omega)
    simp only [go_sem,avU,e1,e2,decide_true,w1,w2,b4,b5,b6,w3]
    refine ⟨m - 1,by omega,k+1,by omega,?_,rfl⟩
    unfold cl32
    split<;>(try split)<;>omega
   ·have e2:((k:Int)<32)=False:=eq_false (by omega)
    have e3:k=cl32 b:=by omega
    simp only [go_sem,avU,e1,e2,decide_true,decide_false]
    rw [e3]
  ·have e1:((k:Int)<b)=False:=eq_false h1
   have e3:k=cl32 b:=by
    by_cases p1:b<0
    ·have e:cl32 b=0:=if_pos p1
     omega
    ·by_cases p2:32<b
     ·have e:cl32 b=32:=by unfold cl32;rw [if_neg p1,if_pos p2]
      omega
     ·have e:cl32 b=b.toNat:=by unfold cl32;rw [if_neg p1,if_neg p2]
      omega
   simp only [go_sem,avU,e1,decide_false]
   rw [e3]
theorem C_rValid (a:Nat) (b:Int) (ha:a<4294967296):AC Tryz.prog f_q76 [avPfx a b] (.lit (.bool (validN a b))):=by
 refine ac_q76 ?_ (Nat.le_add_left 1 19)
 by_cases h0:0≤b
 ·by_cases h1:b≤32
  ·have e0:decide (0≤b)=true:=by simpa using h0
   have e1:decide (b≤32)=true:=by simpa using h1
   simp only [go_sem,c_q76,avPfx,avU,e0,e1]
   refine callX_of (C_rMask b) ?_
   simp only [go_sem,c_q76,avU,e0,e1,u32_nmsk a _ ha]
   rw [cl32_eq b h0 h1,nat_beq0]
   simp [validN,e0,e1]
  ·have e0:decide (0≤b)=true:=by simpa using h0
   have e1:decide (b≤32)=false:=by simpa using h1
   simp only [go_sem,c_q76,avPfx,avU,e0,e1]
   simp [validN,e0,e1]
 ·have e0:decide (0≤b)=false:=by simpa using h0
  simp only [go_sem,c_q76,avPfx,avU,e0]
  simp [validN,e0]
theorem C_rIn (p:Nat) (b:Int) (x:Nat) (hp:p<4294967296) (hx:x<4294967296):AC Tryz.prog f_q39 [avPfx p b,avU x] (.lit (.bool (inN p b x))):=by
 refine ac_q39 ?_ (Nat.le_add_left 2 15)
 cases hv:validN p b with
 | false=>
  simp only [go_sem,c_q39,avPfx,avU]
  refine callX_of (C_rValid p b hp) ?_
  simp only [go_sem,hv]
  simp [inN,hv]
 | true=>
  obtain ⟨h0,h1⟩:=validN_bounds hv
  simp only [go_sem,c_q39,avPfx,avU]
  refine callX_of (C_rValid p b hp) ?_
  simp only [go_sem,hv]
  refine callX_of (C_rMask b) ?_
  simp only [go_sem,avU,u32_msk x _ hx]
  rw [cl32_eq b h0 h1,nat_beq]
  simp [inN,hv]
theorem C_rWithin (p:Nat) (b:Int) (q:Nat) (c:Int) (hp:p<4294967296) (hq:q<4294967296):AC Tryz.prog f_q124 [avPfx p b,avPfx q c] (.lit (.bool (withinN p b q c))):=by
 refine ac_q124 ?_ (Nat.le_add_left 2 18)
 cases hv:validN p b with
 | false=>
  simp only [go_sem,c_q124,avPfx,avU]
  refine callX_of (C_rValid p b hp) ?_
  simp only [go_sem,hv]
  simp [withinN,hv]
 | true=>
  cases hc:decide (c≤b) with
  | false=>
   simp only [go_sem,c_q124,avPfx,avU]
   refine callX_of (C_rValid p b hp) ?_
   simp only [go_sem,hv,hc]
   simp [withinN,hv,hc]
  | true=>
   simp only [go_sem,c_q124,avPfx,avU]
   refine callX_of (C_rValid p b hp) ?_
   simp only [go_sem,hv,hc]
   refine callX_of (C_rIn q c p hq hp) ?_
   simp only [go_sem,hv,hc]
   simp [withinN,hv,hc]
theorem C_rGroup (a:Nat) (ha:a<4294967296):AC Tryz.prog f_q126 [avU a] (.lit (.bool (groupN a))):=by
 refine ac_q126 ?_ (Nat.le_add_left 1 _)
 have e:=avBin_shr 42 .u32 .u64 (a:Int) 28 (by decide) (by decide)
 have e2:(((a:Int) / 2 ^ 28)==14)=groupN a:=by
  rw [show (2:Int) ^ 28=268435456 from rfl,Bool.eq_iff_iff]
  simp only [beq_iff_eq,groupN,Bool.and_eq_true,decide_eq_true_eq]
  omega
 simp only [go_sem,c_q126,avU,e]
 rw [← e2]
end Go.Proofs.YtelbgkknneljeaaGreatDoor.VL
end

section
set_option maxHeartbeats 4000000
namespace Go.Proofs.YtelbgkknneljeaaGreatDoor.VL
open Go.RowKit Go.Proofs
def nmCode (ok:Bool):Int:=if ok=true then 0 else 109
def fstOK (l:List UInt8):Bool:=decide (1≤l.length)&&(decide (l.length≤12)&&hd0 l[0]?)
theorem nameOK_fst (l:List UInt8):nameOK l=(fstOK l&&l.all fun b=>signN b.toNat):=by
 simp only[nameOK,fstOK,Bool.and_assoc]
theorem C_r5Name (s:ByteArray) (hs:s.size<9223372036854775808):AC Tryz.prog f_q123 [avStr s] (.lit (.int .i64 (nmCode (nameOK s.data.toList)))):=by
 refine ac_q123 ?_ (Nat.le_add_left 1 _)
 have hsz:s.size=s.data.toList.length:=Lib.size_eq s
 simp only [go_sem,c_q123,avStr]
 generalize hL:s.data.toList=l at hsz
 have hf:=nameOK_fst l
 by_cases h1:1≤l.length
 ·have e1:((1:Int)≤(s.size:Int))=True:=eq_true (by omega)
  obtain ⟨b0,hb0⟩:∃ b,l[0]?=some b:=⟨l[0],List.getElem?_eq_getElem (by omega)⟩
  have i0:=avIxs_l s .i64 0 b0 (by rw [hL];exact hb0)
  rw [show ((0:Nat):Int)=0 from rfl] at i0
  have d1:decide (1≤l.length)=true:=by simpa using h1
  by_cases h2:l.length≤12
  ·have e2:((s.size:Int)≤12)=True:=eq_true (by omega)
   have d2:decide (l.length≤12)=true:=by simpa using h2
   by_cases hA:97≤b0.toNat
   ·have gA:((97:Int)≤((b0.toNat:Nat):Int))=True:=eq_true (by omega)
    by_cases hB:b0.toNat≤122
    ·have gB:(((b0.toNat:Nat):Int)≤122)=True:=eq_true (by omega)
     have eF:fstOK l=true:=by simp only [fstOK,d1,d2,hb0,hd0,letterN,hA,hB,decide_true,Bool.and_self]
     simp only [go_sem,e1,e2,i0,gA,gB,decide_true,decide_false]
     refine aw_loop (fun m E=>∃ (k:Nat) (ok:Bool),k+m=l.length∧ok=(fstOK l&&(l.take k).all fun b=>signN b.toNat)∧E=mkE [(0,.lit (.string s)),(3,.lit (.bool ok)),(4,.lit (.int .i64 (k:Nat)))] []) l.length ?_ ?_
     ·exact ⟨0,_,by omega,rfl,by simp only [go_sem,eF,List.take_zero,List.all_nil,Bool.and_true];rfl⟩
     ·rintro m _ ⟨k,ok,hk,hok,rfl⟩
      by_cases hkl:k<l.length
      ·have f1:((k:Int)<(s.size:Int))=True:=eq_true (by omega)
       obtain ⟨b,hb⟩:∃ b,l[k]?=some b:=⟨l[k],List.getElem?_eq_getElem hkl⟩
       have ib:=avIxs_l s .i64 k b (by rw [hL];exact hb)
       have w1:=wrap_succ k (by omega)
       have hstep:(fstOK l&&(l.take (k+1)).all fun b=>signN b.toNat)=(ok&&signN b.toNat):=by
        rw [List.take_add_one,hb,List.all_append,hok,Bool.and_assoc]
        simp
       cases ok with
       | false=>
        simp only [go_sem,f1,decide_true,ib,w1]
        exact ⟨m - 1,by omega,k+1,false,by omega,by rw [hstep];rfl,rfl⟩
       | true=>
        have done:∀ t:Bool,signN b.toNat=t→t=(fstOK l&&(l.take (k+1)).all fun b=>signN b.toNat):=fun t ht=>by rw [hstep,ht];rfl
        by_cases hA:97≤b.toNat
        ·have gA:((97:Int)≤((b.toNat:Nat):Int))=True:=eq_true (by omega)
         by_cases hB:b.toNat≤122
         ·have gB:(((b.toNat:Nat):Int)≤122)=True:=eq_true (by omega)
          simp only [go_sem,f1,decide_true,ib,w1,gA,gB]
          exact ⟨m - 1,by omega,k+1,true,by omega,done true (by simp [signN,letterN,hA,hB]),rfl⟩
         ·have gB:(((b.toNat:Nat):Int)≤122)=False:=eq_false (by omega)
          have g48:((48:Int)≤((b.toNat:Nat):Int))=True:=eq_true (by omega)
          have g57:(((b.toNat:Nat):Int)≤57)=False:=eq_false (by omega)
          have g45:(((b.toNat:Nat):Int)==45)=false:=by simp only [beq_eq_false_iff_ne,ne_eq];omega
          simp only [go_sem,f1,decide_true,decide_false,ib,w1,gA,gB,g48,g57,g45]
          exact ⟨m - 1,by omega,k+1,false,by omega,done false (by simp [signN,letterN];omega),rfl⟩
        ·have gA:((97:Int)≤((b.toNat:Nat):Int))=False:=eq_false (by omega)
         by_cases h48:48≤b.toNat
         ·have g48:((48:Int)≤((b.toNat:Nat):Int))=True:=eq_true (by omega)
          by_cases h57:b.toNat≤57
          ·have g57:(((b.toNat:Nat):Int)≤57)=True:=eq_true (by omega)
           simp only [go_sem,f1,decide_true,decide_false,ib,w1,gA,g48,g57]
           exact ⟨m - 1,by omega,k+1,true,by omega,done true (by simp [signN,h48,h57]),rfl⟩
          ·have g57:(((b.toNat:Nat):Int)≤57)=False:=eq_false (by omega)
           have g45:(((b.toNat:Nat):Int)==45)=false:=by simp only [beq_eq_false_iff_ne,ne_eq];omega
           simp only [go_sem,f1,decide_true,decide_false,ib,w1,gA,g48,g57,g45]
           exact ⟨m - 1,by omega,k+1,false,by omega,done false (by simp [signN,letterN];omega),rfl⟩
         ·have g48:((48:Int)≤((b.toNat:Nat):Int))=False:=eq_false (by omega)
          by_cases h45:b.toNat=45
          ·have g45:(((b.toNat:Nat):Int)==45)=true:=by rw [h45];rfl
           simp only [go_sem,f1,decide_true,decide_false,ib,w1,gA,g48,g45]
           exact ⟨m - 1,by omega,k+1,true,by omega,done true (by simp [signN,h45]),rfl⟩
          ·have g45:(((b.toNat:Nat):Int)==45)=false:=by simp only [beq_eq_false_iff_ne,ne_eq];omega
           simp only [go_sem,f1,decide_true,decide_false,ib,w1,gA,g48,g45]
           exact ⟨m - 1,by omega,k+1,false,by omega,done false (by simp [signN,letterN];omega),rfl⟩
      ·have f1:((k:Int)<(s.size:Int))=False:=eq_false (by omega)
       rw [List.take_of_length_le (by omega),← hf] at hok
       rw [← hok]
       cases ok
       ·simp only [go_sem,f1,decide_false,nmCode,Bool.false_eq_true]
       ·simp only [go_sem,f1,decide_false,nmCode]
    ·have gB:(((b0.toNat:Nat):Int)≤122)=False:=eq_false (by omega)
     have eF:fstOK l=false:=by simp [fstOK,hb0,hd0,letterN,hB]
     simp only [go_sem,e1,e2,i0,gA,gB,decide_true,decide_false]
     refine aw_loop (fun m E=>∃ (k:Nat) (ok:Bool),k+m=l.length∧ok=(fstOK l&&(l.take k).all fun b=>signN b.toNat)∧E=mkE [(0,.lit (.string s)),(3,.lit (.bool ok)),(4,.lit (.int .i64 (k:Nat)))] []) l.length ?_ ?_
     ·exact ⟨0,_,by omega,rfl,by simp only [go_sem,eF,List.take_zero,List.all_nil,Bool.and_true];rfl⟩
     ·rintro m _ ⟨k,ok,hk,hok,rfl⟩
      by_cases hkl:k<l.length
      ·have f1:((k:Int)<(s.size:Int))=True:=eq_true (by omega)
       obtain ⟨b,hb⟩:∃ b,l[k]?=some b:=⟨l[k],List.getElem?_eq_getElem hkl⟩
       have ib:=avIxs_l s .i64 k b (by rw [hL];exact hb)
       have w1:=wrap_succ k (by omega)
       have hstep:(fstOK l&&(l.take (k+1)).all fun b=>signN b.toNat)=(ok&&signN b.toNat):=by
        rw [List.take_add_one,hb,List.all_append,hok,Bool.and_assoc]
        simp
       cases ok with
       | false=>
        simp only [go_sem,f1,decide_true,ib,w1]
        exact ⟨m - 1,by omega,k+1,false,by omega,by rw [hstep];rfl,rfl⟩
       | true=>
        have done:∀ t:Bool,signN b.toNat=t→t=(fstOK l&&(l.take (k+1)).all fun b=>signN b.toNat):=fun t ht=>by rw [hstep,ht];rfl
        by_cases hA:97≤b.toNat
        ·have gA:((97:Int)≤((b.toNat:Nat):Int))=True:=eq_true (by omega)
         by_cases hB:b.toNat≤122
         ·have gB:(((b.toNat:Nat):Int)≤122)=True:=eq_true (by omega)
          simp only [go_sem,f1,decide_true,ib,w1,gA,gB]
          exact ⟨m - 1,by omega,k+1,true,by omega,done true (by simp [signN,letterN,hA,hB]),rfl⟩
         ·have gB:(((b.toNat:Nat):Int)≤122)=False:=eq_false (by omega)
          have g48:((48:Int)≤((b.toNat:Nat):Int))=True:=eq_true (by omega)
          have g57:(((b.toNat:Nat):Int)≤57)=False:=eq_false (by omega)
          have g45:(((b.toNat:Nat):Int)==45)=false:=by simp only [beq_eq_false_iff_ne,ne_eq];omega
          simp only [go_sem,f1,decide_true,decide_false,ib,w1,gA,gB,g48,g57,g45]
          exact ⟨m - 1,by omega,k+1,false,by omega,done false (by simp [signN,letterN];omega),rfl⟩
        ·have gA:((97:Int)≤((b.toNat:Nat):Int))=False:=eq_false (by omega)
         by_cases h48:48≤b.toNat
         ·have g48:((48:Int)≤((b.toNat:Nat):Int))=True:=eq_true (by omega)
          by_cases h57:b.toNat≤57
          ·have g57:(((b.toNat:Nat):Int)≤57)=True:=eq_true (by omega)
           simp only [go_sem,f1,decide_true,decide_false,ib,w1,gA,g48,g57]
           exact ⟨m - 1,by omega,k+1,true,by omega,done true (by simp [signN,h48,h57]),rfl⟩
          ·have g57:(((b.toNat:Nat):Int)≤57)=False:=eq_false (by omega)
           have g45:(((b.toNat:Nat):Int)==45)=false:=by simp only [beq_eq_false_iff_ne,ne_eq];omega
           simp only [go_sem,f1,decide_true,decide_false,ib,w1,gA,g48,g57,g45]
           exact ⟨m - 1,by omega,k+1,false,by omega,done false (by simp [signN,letterN];omega),rfl⟩
         ·have g48:((48:Int)≤((b.toNat:Nat):Int))=False:=eq_false (by omega)
          by_cases h45:b.toNat=45
          ·have g45:(((b.toNat:Nat):Int)==45)=true:=by rw [h45];rfl
           simp only [go_sem,f1,decide_true,decide_false,ib,w1,gA,g48,g45]
           exact ⟨m - 1,by omega,k+1,true,by omega,done true (by simp [signN,h45]),rfl⟩
          ·have g45:(((b.toNat:Nat):Int)==45)=false:=by simp only [beq_eq_false_iff_ne,ne_eq];omega
           simp only [go_sem,f1,decide_true,decide_false,ib,w1,gA,g48,g45]
           exact ⟨m - 1,by omega,k+1,false,by omega,done false (by simp [signN,letterN];omega),rfl⟩
      ·have f1:((k:Int)<(s.size:Int))=False:=eq_false (by omega)
       rw [List.take_of_length_le (by omega),← hf] at hok
       rw [← hok]
       cases ok
       ·simp only [go_sem,f1,decide_false,nmCode,Bool.false_eq_true]
       ·simp only [go_sem,f1,decide_false,nmCode]
   ·have gA:((97:Int)≤((b0.toNat:Nat):Int))=False:=eq_false (by omega)
    have eF:fstOK l=false:=by simp [fstOK,hb0,hd0,letterN,hA]
    simp only [go_sem,e1,e2,i0,gA,decide_true,decide_false]
    refine aw_loop (fun m E=>∃ (k:Nat) (ok:Bool),k+m=l.length∧ok=(fstOK l&&(l.take k).all fun b=>signN b.toNat)∧E=mkE [(0,.lit (.string s)),(3,.lit (.bool ok)),(4,.lit (.int .i64 (k:Nat)))] []) l.length ?_ ?_
    ·exact ⟨0,_,by omega,rfl,by simp only [go_sem,eF,List.take_zero,List.all_nil,Bool.and_true];rfl⟩
    ·rintro m _ ⟨k,ok,hk,hok,rfl⟩
     by_cases hkl:k<l.length
     ·have f1:((k:Int)<(s.size:Int))=True:=eq_true (by omega)
      obtain ⟨b,hb⟩:∃ b,l[k]?=some b:=⟨l[k],List.getElem?_eq_getElem hkl⟩
      have ib:=avIxs_l s .i64 k b (by rw [hL];exact hb)
      have w1:=wrap_succ k (by omega)
      have hstep:(fstOK l&&(l.take (k+1)).all fun b=>signN b.toNat)=(ok&&signN b.toNat):=by
       rw [List.take_add_one,hb,List.all_append,hok,Bool.and_assoc]
       simp
      cases ok with
      | false=>
       simp only [go_sem,f1,decide_true,ib,w1]
       exact ⟨m - 1,by omega,k+1,false,by omega,by rw [hstep];rfl,rfl⟩
      | true=>
       have done:∀ t:Bool,signN b.toNat=t→t=(fstOK l&&(l.take (k+1)).all fun b=>signN b.toNat):=fun t ht=>by rw [hstep,ht];rfl
       by_cases hA:97≤b.toNat
       ·have gA:((97:Int)≤((b.toNat:Nat):Int))=True:=eq_true (by omega)
        by_cases hB:b.toNat≤122
        ·have gB:(((b.toNat:Nat):Int)≤122)=True:=eq_true (by omega)
         simp only [go_sem,f1,decide_true,ib,w1,gA,gB]
         exact ⟨m - 1,by omega,k+1,true,by omega,done true (by simp [signN,letterN,hA,hB]),rfl⟩
        ·have gB:(((b.toNat:Nat):Int)≤122)=False:=eq_false (by omega)
         have g48:((48:Int)≤((b.toNat:Nat):Int))=True:=eq_true (by omega)
         have g57:(((b.toNat:Nat):Int)≤57)=False:=eq_false (by omega)
         have g45:(((b.toNat:Nat):Int)==45)=false:=by simp only [beq_eq_false_iff_ne,ne_eq];omega
         simp only [go_sem,f1,decide_true,decide_false,ib,w1,gA,gB,g48,g57,g45]
         exact ⟨m - 1,by omega,k+1,false,by omega,done false (by simp [signN,letterN];omega),rfl⟩
       ·have gA:((97:Int)≤((b.toNat:Nat):Int))=False:=eq_false (by omega)
        by_cases h48:48≤b.toNat
        ·have g48:((48:Int)≤((b.toNat:Nat):Int))=True:=eq_true (by omega)
         by_cases h57:b.toNat≤57
         ·have g57:(((b.toNat:Nat):Int)≤57)=True:=eq_true (by omega)
          simp only [go_sem,f1,decide_true,decide_false,ib,w1,gA,g48,g57]
          exact ⟨m - 1,by omega,k+1,true,by omega,done true (by simp [signN,h48,h57]),rfl⟩
         ·have g57:(((b.toNat:Nat):Int)≤57)=False:=eq_false (by omega)
          have g45:(((b.toNat:Nat):Int)==45)=false:=by simp only [beq_eq_false_iff_ne,ne_eq];omega
          simp only [go_sem,f1,decide_true,decide_false,ib,w1,gA,g48,g57,g45]
          exact ⟨m - 1,by omega,k+1,false,by omega,done false (by simp [signN,letterN];omega),rfl⟩
        ·have g48:((48:Int)≤((b.toNat:Nat):Int))=False:=eq_false (by omega)
         by_cases h45:b.toNat=45
         ·have g45:(((b.toNat:Nat):Int)==45)=true:=by rw [h45];rfl
          simp only [go_sem,f1,decide_true,decide_false,ib,w1,gA,g48,g45]
          exact ⟨m - 1,by omega,k+1,true,by omega,done true (by simp [signN,h45]),rfl⟩
         ·have g45:(((b.toNat:Nat):Int)==45)=false:=by simp only [beq_eq_false_iff_ne,ne_eq];omega
          simp only [go_sem,f1,decide_true,decide_false,ib,w1,gA,g48,g45]
          exact ⟨m - 1,by omega,k+1,false,by omega,done false (by simp [signN,letterN];omega),rfl⟩
     ·have f1:((k:Int)<(s.size:Int))=False:=eq_false (by omega)
      rw [List.take_of_length_le (by omega),← hf] at hok
      rw [← hok]
      cases ok
      ·simp only [go_sem,f1,decide_false,nmCode,Bool.false_eq_true]
      ·simp only [go_sem,f1,decide_false,nmCode]
  ·have e2:((s.size:Int)≤12)=False:=eq_false (by omega)
   have eF:fstOK l=false:=by simp [fstOK,h2]
   simp only [go_sem,e1,e2,decide_true,decide_false]
   refine aw_loop (fun m E=>∃ (k:Nat) (ok:Bool),k+m=l.length∧ok=(fstOK l&&(l.take k).all fun b=>signN b.toNat)∧E=mkE [(0,.lit (.string s)),(3,.lit (.bool ok)),(4,.lit (.int .i64 (k:Nat)))] []) l.length ?_ ?_
   ·exact ⟨0,_,by omega,rfl,by simp only [go_sem,eF,List.take_zero,List.all_nil,Bool.and_true];rfl⟩
   ·rintro m _ ⟨k,ok,hk,hok,rfl⟩
    by_cases hkl:k<l.length
    ·have f1:((k:Int)<(s.size:Int))=True:=eq_true (by omega)
     obtain ⟨b,hb⟩:∃ b,l[k]?=some b:=⟨l[k],List.getElem?_eq_getElem hkl⟩
     have ib:=avIxs_l s .i64 k b (by rw [hL];exact hb)
     have w1:=wrap_succ k (by omega)
     have hstep:(fstOK l&&(l.take (k+1)).all fun b=>signN b.toNat)=(ok&&signN b.toNat):=by
      rw [List.take_add_one,hb,List.all_append,hok,Bool.and_assoc]
      simp
     cases ok with
     | false=>
      simp only [go_sem,f1,decide_true,ib,w1]
      exact ⟨m - 1,by omega,k+1,false,by omega,by rw [hstep];rfl,rfl⟩
     | true=>
      have done:∀ t:Bool,signN b.toNat=t→t=(fstOK l&&(l.take (k+1)).all fun b=>signN b.toNat):=fun t ht=>by rw [hstep,ht];rfl
      by_cases hA:97≤b.toNat
      ·have gA:((97:Int)≤((b.toNat:Nat):Int))=True:=eq_true (by omega)
       by_cases hB:b.toNat≤122
       ·have gB:(((b.toNat:Nat):Int)≤122)=True:=eq_true (by omega)
        simp only [go_sem,f1,decide_true,ib,w1,gA,gB]
        exact ⟨m - 1,by omega,k+1,true,by omega,done true (by simp [signN,letterN,hA,hB]),rfl⟩
       ·have gB:(((b.toNat:Nat):Int)≤122)=False:=eq_false (by omega)
        have g48:((48:Int)≤((b.toNat:Nat):Int))=True:=eq_true (by omega)
        have g57:(((b.toNat:Nat):Int)≤57)=False:=eq_false (by omega)
        have g45:(((b.toNat:Nat):Int)==45)=false:=by simp only [beq_eq_false_iff_ne,ne_eq];omega
        simp only [go_sem,f1,decide_true,decide_false,ib,w1,gA,gB,g48,g57,g45]
        exact ⟨m - 1,by omega,k+1,false,by omega,done false (by simp [signN,letterN];omega),rfl⟩
      ·have gA:((97:Int)≤((b.toNat:Nat):Int))=False:=eq_false (by omega)
       by_cases h48:48≤b.toNat
       ·have g48:((48:Int)≤((b.toNat:Nat):Int))=True:=eq_true (by omega)
        by_cases h57:b.toNat≤57
        ·have g57:(((b.toNat:Nat):Int)≤57)=True:=eq_true (by omega)
         simp only [go_sem,f1,decide_true,decide_false,ib,w1,gA,g48,g57]
         exact ⟨m - 1,by omega,k+1,true,by omega,done true (by simp [signN,h48,h57]),rfl⟩
        ·have g57:(((b.toNat:Nat):Int)≤57)=False:=eq_false (by omega)
         have g45:(((b.toNat:Nat):Int)==45)=false:=by simp only [beq_eq_false_iff_ne,ne_eq];omega
         simp only [go_sem,f1,decide_true,decide_false,ib,w1,gA,g48,g57,g45]
         exact ⟨m - 1,by omega,k+1,false,by omega,done false (by simp [signN,letterN];omega),rfl⟩
       ·have g48:((48:Int)≤((b.toNat:Nat):Int))=False:=eq_false (by omega)
        by_cases h45:b.toNat=45
        ·have g45:(((b.toNat:Nat):Int)==45)=true:=by rw [h45];rfl
         simp only [go_sem,f1,decide_true,decide_false,ib,w1,gA,g48,g45]
         exact ⟨m - 1,by omega,k+1,true,by omega,done true (by simp [signN,h45]),rfl⟩
        ·have g45:(((b.toNat:Nat):Int)==45)=false:=by simp only [beq_eq_false_iff_ne,ne_eq];omega
         simp only [go_sem,f1,decide_true,decide_false,ib,w1,gA,g48,g45]
         exact ⟨m - 1,by omega,k+1,false,by omega,done false (by simp [signN,letterN];omega),rfl⟩
    ·have f1:((k:Int)<(s.size:Int))=False:=eq_false (by omega)
     rw [List.take_of_length_le (by omega),← hf] at hok
     rw [← hok]
     cases ok
     ·simp only [go_sem,f1,decide_false,nmCode,Bool.false_eq_true]
     ·simp only [go_sem,f1,decide_false,nmCode]
 ·have e1:((1:Int)≤(s.size:Int))=False:=eq_false (by omega)
  have eF:fstOK l=false:=by
   have:decide (1≤l.length)=false:=by simpa using h1
   simp only [fstOK,this,Bool.false_and]
  simp only [go_sem,e1,decide_true,decide_false]
  refine aw_loop (fun m E=>∃ (k:Nat) (ok:Bool),k+m=l.length∧ok=(fstOK l&&(l.take k).all fun b=>signN b.toNat)∧E=mkE [(0,.lit (.string s)),(3,.lit (.bool ok)),(4,.lit (.int .i64 (k:Nat)))] []) l.length ?_ ?_
  ·exact ⟨0,_,by omega,rfl,by simp only [go_sem,eF,List.take_zero,List.all_nil,Bool.and_true];rfl⟩
  ·rintro m _ ⟨k,ok,hk,hok,rfl⟩
   by_cases hkl:k<l.length
   ·have f1:((k:Int)<(s.size:Int))=True:=eq_true (by omega)
    obtain ⟨b,hb⟩:∃ b,l[k]?=some b:=⟨l[k],List.getElem?_eq_getElem hkl⟩
    have ib:=avIxs_l s .i64 k b (by rw [hL];exact hb)
    have w1:=wrap_succ k (by omega)
    have hstep:(fstOK l&&(l.take (k+1)).all fun b=>signN b.toNat)=(ok&&signN b.toNat):=by
     rw [List.take_add_one,hb,List.all_append,hok,Bool.and_assoc]
     simp
    cases ok with
    | false=>
     simp only [go_sem,f1,decide_true,ib,w1]
     exact ⟨m - 1,by omega,k+1,false,by omega,by rw [hstep];rfl,rfl⟩
    | true=>
     have done:∀ t:Bool,signN b.toNat=t→t=(fstOK l&&(l.take (k+1)).all fun b=>signN b.toNat):=fun t ht=>by rw [hstep,ht];rfl
     by_cases hA:97≤b.toNat
     ·have gA:((97:Int)≤((b.toNat:Nat):Int))=True:=eq_true (by omega)
      by_cases hB:b.toNat≤122
      ·have gB:(((b.toNat:Nat):Int)≤122)=True:=eq_true (by omega)
       simp only [go_sem,f1,decide_true,ib,w1,gA,gB]
       exact ⟨m - 1,by omega,k+1,true,by omega,done true (by simp [signN,letterN,hA,hB]),rfl⟩
      ·have gB:(((b.toNat:Nat):Int)≤122)=False:=eq_false (by omega)
       have g48:((48:Int)≤((b.toNat:Nat):Int))=True:=eq_true (by omega)
       have g57:(((b.toNat:Nat):Int)≤57)=False:=eq_false (by omega)
       have g45:(((b.toNat:Nat):Int)==45)=false:=by simp only [beq_eq_false_iff_ne,ne_eq];omega
       simp only [go_sem,f1,decide_true,decide_false,ib,w1,gA,gB,g48,g57,g45]
       exact ⟨m - 1,by omega,k+1,false,by omega,done false (by simp [signN,letterN];omega),rfl⟩
     ·have gA:((97:Int)≤((b.toNat:Nat):Int))=False:=eq_false (by omega)
      by_cases h48:48≤b.toNat
      ·have g48:((48:Int)≤((b.toNat:Nat):Int))=True:=eq_true (by omega)
       by_cases h57:b.toNat≤57
       ·have g57:(((b.toNat:Nat):Int)≤57)=True:=eq_true (by omega)
        simp only [go_sem,f1,decide_true,decide_false,ib,w1,gA,g48,g57]
        exact ⟨m - 1,by omega,k+1,true,by omega,done true (by simp [signN,h48,h57]),rfl⟩
       ·have g57:(((b.toNat:Nat):Int)≤57)=False:=eq_false (by omega)
        have g45:(((b.toNat:Nat):Int)==45)=false:=by simp only [beq_eq_false_iff_ne,ne_eq];omega
        simp only [go_sem,f1,decide_true,decide_false,ib,w1,gA,g48,g57,g45]
        exact ⟨m - 1,by omega,k+1,false,by omega,done false (by simp [signN,letterN];omega),rfl⟩
      ·have g48:((48:Int)≤((b.toNat:Nat):Int))=False:=eq_false (by omega)
       by_cases h45:b.toNat=45
       ·have g45:(((b.toNat:Nat):Int)==45)=true:=by rw [h45];rfl
        simp only [go_sem,f1,decide_true,decide_false,ib,w1,gA,g48,g45]
        exact ⟨m - 1,by omega,k+1,true,by omega,done true (by simp [signN,h45]),rfl⟩
       ·have g45:(((b.toNat:Nat):Int)==45)=false:=by simp only [beq_eq_false_iff_ne,ne_eq];omega
        simp only [go_sem,f1,decide_true,decide_false,ib,w1,gA,g48,g45]
        exact ⟨m - 1,by omega,k+1,false,by omega,done false (by simp [signN,letterN];omega),rfl⟩
   ·have f1:((k:Int)<(s.size:Int))=False:=eq_false (by omega)
    rw [List.take_of_length_le (by omega),← hf] at hok
    rw [← hok]
    cases ok
    ·simp only [go_sem,f1,decide_false,nmCode,Bool.false_eq_true]
    ·simp only [go_sem,f1,decide_false,nmCode]
def codeG:Nat→Int
 | 0=>104
 | 1=>110
 | 2=>103
 | 3=>113
 | 4=>111
 | 5=>112
 | 6=>109
 | _=>-1
def codeN:Option Nat→Int
 | none=>0
 | some g=>codeG g
theorem any_take_none {α:Type} {p:α→Bool} {l:List α} {i:Nat} (h:∀ (j:Nat) (y:α),j<i→l[j]?=some y→p y=false):(l.take i).any p=false:=by
 rw [List.any_eq_false]
 intro x hx
 obtain ⟨j,hj,e⟩:=List.mem_iff_getElem.1 hx
 simp only [List.length_take] at hj
 rw [List.getElem_take] at e
 simp [h j x (by omega) (by rw [List.getElem?_eq_getElem (by omega),e])]
theorem any_take_some {α:Type} {p:α→Bool} {l:List α} {i k:Nat} {x:α} (hk:k<i)(hx:l[k]?=some x)(hp:p x=true):(l.take i).any p=true:=by
 rw[List.any_eq_true]
 refine ⟨x,?_,hp⟩
 obtain ⟨h1,h2⟩:=List.getElem?_eq_some_iff.1 hx
 exact List.mem_iff_getElem.2 ⟨k,by simp;omega,by rw[List.getElem_take];exact h2⟩
theorem C_rPlace (i n:Int):AC Tryz.prog f_q125 [.lit (.int .i64 i),.lit (.int .i64 n)] (.lit (.bool (placeN i n))):=by
 refine ac_q125 ?_ (Nat.le_add_left 2 _)
 unfold placeN
 cases h:decide (0≤i)
 ·simp only [go_sem,c_q125,h,Bool.false_and]
 ·simp only [go_sem,c_q125,h,Bool.true_and]
theorem C_rGroups:AC Tryz.prog f_q44 [] (avPfx 3758096384 4):=by
 refine ac_q44 ?_ (Nat.zero_le _)
 simp only [go_sem,c_q44,avPfx]
 rfl
theorem C_rSameKey (a b c d:Nat):AC Tryz.prog f_q128 [.agg [avU a,avU b],.agg [avU c,avU d]] (.lit (.bool (a==c&&b==d))):=by
 refine ac_q128 ?_ (Nat.le_add_left 2 _)
 cases h:a==c<;>simp only [go_sem,c_q128,avU,nat_beqb,h,Bool.true_and,Bool.false_and]
theorem C_rSamePrefix (a:Nat) (b:Int) (c:Nat) (d:Int):AC Tryz.prog f_q127 [avPfx a b,avPfx c d] (.lit (.bool (a==c&&b==d))):=by
 refine ac_q127 ?_ (Nat.le_add_left 2 _)
 cases h:a==c<;>simp only [go_sem,c_q127,avPfx,avU,nat_beqb,h,Bool.true_and,Bool.false_and]
theorem b109:((109:Int)!=0)=true:=rfl
theorem b000:((0:Int)!=0)=false:=rfl
theorem R_router (w:NW) (h:w.OK) (i:Nat) (x:NRt) (hx:w.rts[i]?=some x):AC Tryz.prog f_q82 [.agg (netV w),.lit (.int .i64 (i:Nat))] (.lit (.int .i64 (codeN (rtOf w.rts i x)))):=by
 have hi:i<w.rts.length:=(List.getElem?_eq_some_iff.1 hx).1
 have hl:=h.l1
 refine ac_q82 ?_ (Nat.le_add_left 2 _)
 simp only [go_sem,c_q82,netV,Int.toNat_natCast,Int.natCast_nonneg,List.getElem?_map,hx,rowAgg,avRouter,avStr]
 refine callX_of (C_r5Name x.nm (h.rtn x (List.mem_of_getElem? hx))) ?_
 cases h1:nameOK x.nm.data.toList
 ·simp only [go_sem,nmCode,h1,rtOf,codeN,codeG,b109,Bool.false_eq_true]
 simp only [go_sem,nmCode,h1,b000]
 refine aw_loop (fun m E=>∃ k:Nat,k+m=i∧(∀ (j:Nat) (y:NRt),j<k→w.rts[j]?=some y→p_router_1 x y=false)∧E=mkE [(1,.lit (.int .i64 (i:Nat))),(2,.lp 2 0),(5,.lp 5 0),(6,.lit (.int .i64 (k:Nat)))] [(2,netV w),(5,[avStr x.nm,.lit (.int .i64 x.rank)])]) i ?_ ?_
 ·exact ⟨0,by omega,fun j y hj=>absurd hj (Nat.not_lt_zero j),by simp only [go_sem,Int.natCast_zero];rfl⟩
 ·rintro m _ ⟨k,hk,hall,rfl⟩
  by_cases hki:k<i
  ·have f1:((k:Int)<(i:Int))=True:=eq_true (by omega)
   obtain ⟨y,hy⟩:∃ y,w.rts[k]?=some y:=⟨w.rts[k],List.getElem?_eq_getElem (by omega)⟩
   have hw:=wrap_succ k (by omega)
   cases hp:p_router_1 x y
   ·have hp2:(y.nm.toList==x.nm.toList)=false:=hp
    simp only [go_sem,f1,decide_true,netV,Int.toNat_natCast,Int.natCast_nonneg,List.getElem?_map,hy,rowAgg,avRouter,avStr,hp2,hw]
    refine ⟨m - 1,by omega,k+1,by omega,fun j z hj hz=>?_,rfl⟩
    by_cases hjk:j=k
    ·subst hjk;rw [hy] at hz;injection hz with hz;rw [← hz];exact hp
    ·exact hall j z (by omega) hz
   ·have hp2:(y.nm.toList==x.nm.toList)=true:=hp
    simp only [go_sem,f1,decide_true,netV,Int.toNat_natCast,Int.natCast_nonneg,List.getElem?_map,hy,rowAgg,avRouter,avStr,hp2,rtOf,h1,any_take_some hki hy hp,codeN,codeG,Bool.true_eq_false]
  ·obtain rfl:k=i:=by omega
   have f1:((k:Int)<(k:Int))=False:=eq_false (by omega)
   have hany:=any_take_none hall
   by_cases g1:x.rank<0
   ·have e:costN x.rank=false:=by simp only [costN];simp;omega
    simp only [go_sem,f1,decide_false,avStr,g1,decide_true,rtOf,h1,hany,e,codeN,codeG,Bool.true_eq_false,Bool.false_eq_true]
   ·by_cases g2:65535<x.rank
    ·have e:costN x.rank=false:=by simp only [costN];simp;omega
     simp only [go_sem,f1,decide_false,avStr,g1,g2,decide_true,rtOf,h1,hany,e,codeN,codeG,Bool.true_eq_false,Bool.false_eq_true]
    ·have e:costN x.rank=true:=by simp only [costN];simp;omega
     simp only [go_sem,f1,decide_false,avStr,g1,g2,rtOf,h1,hany,e,codeN,codeG,Bool.true_eq_false,Bool.false_eq_true]
end Go.Proofs.YtelbgkknneljeaaGreatDoor.VL
end

section
set_option maxHeartbeats 4000000
namespace Go.Proofs.YtelbgkknneljeaaGreatDoor.VL
open Go.RowKit Go.Proofs
theorem R_link (w:NW) (h:w.OK) (i:Nat) (x:NLk) (hx:w.lks[i]?=some x):AC Tryz.prog f_q83 [.agg (netV w),.lit (.int .i64 (i:Nat))] (.lit (.int .i64 (codeN (lkOf w.lks i x)))):=by
 have hi:i<w.lks.length:=(List.getElem?_eq_some_iff.1 hx).1
 have hl:=h.l2
 have ha:=h.lka x (List.mem_of_getElem? hx)
 refine ac_q83 ?_ (Nat.le_add_left 2 _)
 simp only [go_sem,c_q83,netV,Int.toNat_natCast,Int.natCast_nonneg,List.getElem?_map,hx,rowAgg,avLink,avStr,avU]
 refine callX_of (C_r5Name x.nm (h.lkn x (List.mem_of_getElem? hx))) ?_
 cases h1:nameOK x.nm.data.toList
 ·simp only [go_sem,nmCode,h1,lkOf,codeN,codeG,b109,Bool.false_eq_true]
 simp only [go_sem,nmCode,h1,b000]
 refine aw_loop (fun m E=>∃ k:Nat,k+m=i∧(∀ (j:Nat) (y:NLk),j<k→w.lks[j]?=some y→p_link_1 x y=false)∧E=mkE [(1,.lit (.int .i64 (i:Nat))),(2,.lp 2 0),(5,.lp 5 0),(6,.lit (.int .i64 (k:Nat)))] [(2,netV w),(5,[avStr x.nm,avU x.a,.lit (.int .i64 x.b)])]) i ?_ ?_
 ·exact ⟨0,by omega,fun j y hj=>absurd hj (Nat.not_lt_zero j),by simp only [go_sem,Int.natCast_zero];rfl⟩
 ·rintro m _ ⟨k,hk,hall,rfl⟩
  by_cases hki:k<i
  ·have f1:((k:Int)<(i:Int))=True:=eq_true (by omega)
   obtain ⟨y,hy⟩:∃ y,w.lks[k]?=some y:=⟨w.lks[k],List.getElem?_eq_getElem (by omega)⟩
   have hw:=wrap_succ k (by omega)
   cases hp:p_link_1 x y
   ·have hp2:(y.nm.toList==x.nm.toList)=false:=hp
    simp only [go_sem,f1,decide_true,netV,Int.toNat_natCast,Int.natCast_nonneg,List.getElem?_map,hy,rowAgg,avLink,avStr,avU,hp2,hw]
    refine ⟨m - 1,by omega,k+1,by omega,fun j z hj hz=>?_,rfl⟩
    by_cases hjk:j=k
    ·subst hjk;rw [hy] at hz;injection hz with hz;rw [← hz];exact hp
    ·exact hall j z (by omega) hz
   ·have hp2:(y.nm.toList==x.nm.toList)=true:=hp
    simp only [go_sem,f1,decide_true,netV,Int.toNat_natCast,Int.natCast_nonneg,List.getElem?_map,hy,rowAgg,avLink,avStr,avU,hp2,lkOf,h1,any_take_some hki hy hp,codeN,codeG,Bool.true_eq_false]
  ·obtain rfl:k=i:=by omega
   have f1:((k:Int)<(k:Int))=False:=eq_false (by omega)
   have hany:=any_take_none hall
   have hV:=C_rValid x.a x.b ha
   have hW1:=C_rWithin x.a x.b 3758096384 4 ha (by decide)
   have hW2:=C_rWithin 3758096384 4 x.a x.b (by decide) ha
   have hG:=C_rGroups
   simp only [avPfx,avU] at hV hW1 hW2 hG
   simp only [go_sem,f1,decide_false,avStr,avU]
   refine callX_of hV ?_
   cases h3:validN x.a x.b
   ·simp only [go_sem,lkOf,h1,hany,h3,codeN,codeG,Bool.not_false,Bool.true_eq_false,Bool.false_eq_true]
   simp only [go_sem,Bool.not_true]
   refine callX_of hG ?_
   simp only [go_sem]
   refine callX_of hW1 ?_
   cases h4:withinN x.a x.b 3758096384 4
   case true=>simp only [go_sem,lkOf,h1,hany,h3,h4,codeN,codeG,Bool.true_or,Bool.true_eq_false,Bool.false_eq_true]
   simp only [go_sem]
   refine callX_of hG ?_
   simp only [go_sem]
   refine callX_of hW2 ?_
   cases h5:withinN 3758096384 4 x.a x.b<;>simp only [go_sem,lkOf,h1,hany,h3,h4,h5,codeN,codeG,Bool.or_true,Bool.or_false,Bool.true_eq_false,Bool.false_eq_true]
theorem at_link {w:NW} {lk:Int} (h:placeN lk w.lks.length=true):∃ (q:Nat)(y:NLk),lk=(q:Int)∧w.lks[q]?=some y:=by
 simp only[placeN,Bool.and_eq_true,decide_eq_true_eq] at h
 exact ⟨lk.toNat,w.lks[lk.toNat]'(by omega),by omega,List.getElem?_eq_getElem (by omega)⟩
theorem onAt_net {w:NW} {lk:Int} {q:Nat} {y:NLk} (a:Nat)(e:lk=(q:Int))(hy:w.lks[q]?=some y):onAt w.net lk a=onN y a:=by
 simp only[onAt,NW.net,Option.getD_some,e,Int.toNat_natCast,hy]
theorem nb0 (a:Nat):((a:Int)==0)=(a==0):=by
 rw[Bool.eq_iff_iff];simp
theorem rt_len (w:NW):(w.net.rts.getD []).length=w.rts.length:=rfl
theorem lk_len (w:NW):(w.net.lks.getD []).length=w.lks.length:=rfl
theorem pt_net (w:NW):w.net.pts.getD []=w.pts:=rfl
theorem R_port (w : NW) (h : w.OK) (i : Nat) (x : NPt) (hx : w.pts[i]? = some x) : AC Tryz.prog f_q84 [.agg (netV w),.lit (.int .i64 (i : Nat))] (.lit (.int .i64 (codeN (ptOf w.net w.pts i x)))):= by
  have hi : i < w.pts.length:= (List.getElem?_eq_some_iff.1 hx).1
  have hl:= h.l3
  have ha:= h.pta x (List.mem_of_getElem? hx)
  refine ac_q84 ?_ (Nat.le_add_left 2 _)
  simp only [go_sem,c_q84,netV,Int.toNat_natCast,Int.natCast_nonneg,List.getElem?_map,hx,rowAgg,avPort,avU,List.length_map]
  refine callX_of (C_rPlace x.rt w.rts.length) ?_
  cases h1 : placeN x.rt w.rts.length
  · simp only [go_sem,h1,ptOf,rt_len,lk_len,codeN,codeG,Bool.not_false,Bool.false_and]
  simp only [go_sem,h1,Bool.not_true,List.length_map]
  refine callX_of (C_rPlace x.lk w.lks.length) ?_
  cases h2 : placeN x.lk w.lks.length
  · simp only [go_sem,h1,h2,ptOf,rt_len,lk_len,codeN,codeG,Bool.not_false,Bool.and_false]
  obtain ⟨q,y0,hq,hy0⟩:= at_link h2
  have hat:= onAt_net x.a hq hy0
  have hI:= C_rIn y0.a y0.b x.a (h.lka y0 (List.mem_of_getElem? hy0)) ha
  simp only [avPfx,avU] at hI
  cases h3 : x.a == 0
  case true =>
    have e : onN y0 x.a = false:= by simp only [onN,h3,Bool.not_true,Bool.false_and]
    simp only [go_sem,h1,h2,Bool.not_true,nb0,h3,ptOf,rt_len,lk_len,hat,e,codeN,codeG,Bool.and_self,Bool.true_eq_false]
  simp only [go_sem,Bool.not_true,nb0,h3,hq,hy0,Int.toNat_natCast,Int.natCast_nonneg,List.getElem?_map,rowAgg,avLink,avStr,avU]
  refine callX_of hI ?_
  cases h4 : inN y0.a y0.b x.a
  · have e : onN y0 x.a = false:= by simp only [onN,h4,Bool.and_false]
    simp only [go_sem,h1,h2,Bool.not_false,ptOf,rt_len,lk_len,← hq,hat,e,codeN,codeG,Bool.and_self,Bool.true_eq_false]
  have e : onN y0 x.a = true:= by simp only [onN,h3,h4,Bool.not_false,Bool.and_self]
  simp only [go_sem,Bool.not_true]
  refine aw_loop (fun m E => ∃ k : Nat,k + m = i ∧ (∀ (j : Nat) (y : NPt),j < k → w.pts[j]? = some y → p_port_1 x y = false) ∧ E = mkE [(1,.lit (.int .i64 (i : Nat))),(2,.lp 2 0),(5,.lp 5 0),(6,.lit (.int .i64 (k : Nat)))] [(2,netV w),(5,[.lit (.int .i64 x.rt),.lit (.int .i64 x.lk),avU x.a])]) i ?_ ?_
  · exact ⟨0,by omega,fun j y hj => absurd hj (Nat.not_lt_zero j),by simp only [go_sem,Int.natCast_zero,hq]; rfl⟩
  · rintro m _ ⟨k,hk,hall,rfl⟩
    by_cases hki : k < i
    · have f1 : ((k : Int) < (i : Int)) = True:= eq_true (by omega)
      obtain ⟨y,hy⟩ : ∃ y,w.pts[k]? = some y:= ⟨w.pts[k],List.getElem?_eq_getElem (by omega)⟩
      have hw:= wrap_succ k (by omega)
      have go : p_port_1 x y = false → ∀ (j : Nat) (z : NPt),j < k + 1 → w.pts[j]? = some z → p_port_1 x z = false:= fun hp j z hj hz => by
        by_cases hjk : j = k
        · subst hjk; rw [hy] at hz; injection hz with hz; rw [← hz]; exact hp
        · exact hall j z (by omega) hz
      cases e0 : (y.a == x.a) <;> cases e1 : (y.rt == x.rt) <;> cases e2 : (y.lk == x.lk) <;> simp only [go_sem,f1,decide_true,netV,Int.toNat_natCast,Int.natCast_nonneg,List.getElem?_map,hy,rowAgg,avPort,avU,nat_beqb,e0,e1,e2,hw]
      all_goals first
        | exact ⟨m - 1,by omega,k + 1,by omega,go (by simp only [p_port_1,e0,e1,e2]; rfl),rfl⟩
        | (have hp : p_port_1 x y = true:= by simp only [p_port_1,e0,e1,e2]; rfl
           simp only [ptOf,rt_len,lk_len,h1,h2,← hq,hat,e,any_take_some hki hy hp,codeN,codeG,Bool.and_self,Bool.true_eq_false,if_false,if_true])
    · obtain rfl : k = i:= by omega
      have f1 : ((k : Int) < (k : Int)) = False:= eq_false (by omega)
      have hany:= any_take_none hall
      simp only [go_sem,f1,decide_false,ptOf,rt_len,lk_len,h1,h2,← hq,hat,e,hany,codeN,codeG,Bool.and_self,Bool.true_eq_false,Bool.false_eq_true]
theorem R_route (w:NW) (h:w.OK) (i:Nat) (x:NRo) (hx:w.ros[i]?=some x):AC Tryz.prog f_q85 [.agg (netV w),.lit (.int .i64 (i:Nat))] (.lit (.int .i64 (codeN (roOf w.net x)))):=by
 have hi:i<w.ros.length:=(List.getElem?_eq_some_iff.1 hx).1
 have hl:=h.l4
 have ha:=h.roa x (List.mem_of_getElem? hx)
 have hv:=h.rov x (List.mem_of_getElem? hx)
 refine ac_q85 ?_ (Nat.le_add_left 2 _)
 simp only [go_sem,c_q85,netV,Int.toNat_natCast,Int.natCast_nonneg,List.getElem?_map,hx,rowAgg,avRoute,avU,List.length_map]
 refine callX_of (C_rPlace x.rt w.rts.length) ?_
 cases h1:placeN x.rt w.rts.length
 ·simp only [go_sem,h1,roOf,rt_len,codeN,codeG,Bool.not_false]
 have hV:=C_rValid x.a x.b ha
 simp only [avPfx,avU] at hV
 simp only [go_sem,h1,Bool.not_true]
 refine callX_of hV ?_
 cases h3:validN x.a x.b
 ·simp only [go_sem,roOf,rt_len,h1,h3,codeN,codeG,Bool.not_false,Bool.false_and,Bool.true_eq_false,Bool.false_eq_true]
 have hG:=C_rGroup x.via hv
 simp only [avU] at hG
 have kind:hostN x.via=false→roOf w.net x=some 3∨costN x.cost=false:=fun hh=>by
  cases hc:costN x.cost
  ·exact .inr rfl
  ·left;simp only [roOf,rt_len,h1,h3,hc,hh,Bool.and_self,Bool.true_eq_false,if_false,if_true]
 by_cases g1:x.cost<0
 ·have e:costN x.cost=false:=by simp only [costN];simp;omega
  simp only [go_sem,Bool.not_true,g1,decide_true,roOf,rt_len,h1,h3,e,codeN,codeG,Bool.and_false,Bool.true_eq_false]
 by_cases g2:65535<x.cost
 ·have e:costN x.cost=false:=by simp only [costN];simp;omega
  simp only [go_sem,Bool.not_true,g1,g2,decide_true,decide_false,roOf,rt_len,h1,h3,e,codeN,codeG,Bool.and_false,Bool.true_eq_false]
 have e:costN x.cost=true:=by simp only [costN];simp;omega
 simp only [go_sem,Bool.not_true,g1,g2,decide_false]
 refine callX_of hG ?_
 cases h4:groupN x.via
 ·cases h5:x.via==0
  ·have eh:hostN x.via=true:=by simp only [hostN,h4,h5,Bool.not_false,Bool.and_self]
   simp only [go_sem,nb0,h5,roOf,rt_len,h1,h3,e,eh,codeN,codeG,Bool.and_self,Bool.true_eq_false]
  ·have eh:hostN x.via=false:=by simp only [hostN,h5,Bool.not_true,Bool.false_and]
   simp only [go_sem,nb0,h5,roOf,rt_len,h1,h3,e,eh,codeN,codeG,Bool.and_self,Bool.true_eq_false]
 ·have eh:hostN x.via=false:=by simp only [hostN,h4,Bool.not_true,Bool.and_false]
  simp only [go_sem,roOf,rt_len,h1,h3,e,eh,codeN,codeG,Bool.and_self,Bool.true_eq_false]
theorem R_groups (w:NW) (h:w.OK) (i:Nat) (x:NRg) (hx:w.rgs[i]?=some x):AC Tryz.prog f_q86 [.agg (netV w),.lit (.int .i64 (i:Nat))] (.lit (.int .i64 (codeN (rgOf w.rgs i x)))):=by
 have hi:i<w.rgs.length:=(List.getElem?_eq_some_iff.1 hx).1
 have hl:=h.l5
 have ha:=h.rga x (List.mem_of_getElem? hx)
 have hv:=h.rgr x (List.mem_of_getElem? hx)
 have hV:=C_rValid x.a x.b ha
 have hW1:=C_rWithin x.a x.b 3758096384 4 ha (by decide)
 have hG:=C_rGroups
 have hR:=C_rGroup x.root hv
 simp only [avPfx,avU] at hV hW1 hG hR
 refine ac_q86 ?_ (Nat.le_add_left 2 _)
 simp only [go_sem,c_q86,netV,Int.toNat_natCast,Int.natCast_nonneg,List.getElem?_map,hx,rowAgg,avRange,avU,List.length_map]
 refine callX_of hV ?_
 cases h1:validN x.a x.b
 ·simp only [go_sem,h1,rgOf,codeN,codeG,Bool.not_false]
 simp only [go_sem,Bool.not_true]
 refine callX_of hG ?_
 simp only [go_sem]
 refine callX_of hW1 ?_
 cases h2:withinN x.a x.b 3758096384 4
 ·simp only [go_sem,h1,h2,rgOf,codeN,codeG,Bool.not_false,Bool.false_and,Bool.true_eq_false]
 simp only [go_sem,Bool.not_true]
 refine callX_of hR ?_
 cases h4:groupN x.root
 case true=>
  have eh:hostN x.root=false:=by simp only [hostN,h4,Bool.not_true,Bool.and_false]
  simp only [go_sem,h1,h2,eh,rgOf,codeN,codeG,Bool.and_false,Bool.true_eq_false]
 cases h5:x.root==0
 case true=>
  have eh:hostN x.root=false:=by simp only [hostN,h5,Bool.not_true,Bool.false_and]
  simp only [go_sem,nb0,h5,h1,h2,eh,rgOf,codeN,codeG,Bool.and_false,Bool.true_eq_false]
 have eh:hostN x.root=true:=by simp only [hostN,h4,h5,Bool.not_false,Bool.and_self]
 simp only [go_sem,nb0,h5]
 refine aw_loop (fun m E=>∃ k:Nat,k+m=i∧(∀ (j:Nat) (y:NRg),j<k→w.rgs[j]?=some y→p_ranges_1 x y=false)∧E=mkE [(1,.lit (.int .i64 (i:Nat))),(2,.lp 2 0),(5,.lp 5 0),(6,.lit (.int .i64 (k:Nat)))] [(2,netV w),(5,[avU x.a,.lit (.int .i64 x.b),avU x.root])]) i ?_ ?_
 ·exact ⟨0,by omega,fun j y hj=>absurd hj (Nat.not_lt_zero j),by simp only [go_sem,Int.natCast_zero];rfl⟩
 ·rintro m _ ⟨k,hk,hall,rfl⟩
  by_cases hki:k<i
  ·have f1:((k:Int)<(i:Int))=True:=eq_true (by omega)
   obtain ⟨y,hy⟩:∃ y,w.rgs[k]?=some y:=⟨w.rgs[k],List.getElem?_eq_getElem (by omega)⟩
   have hw:=wrap_succ k (by omega)
   have hS:=C_rSamePrefix y.a y.b x.a x.b
   simp only [avPfx,avU] at hS
   simp only [go_sem,f1,decide_true,netV,Int.toNat_natCast,Int.natCast_nonneg,List.getElem?_map,hy,rowAgg,avRange,avU]
   refine callX_of hS ?_
   cases hp:p_ranges_1 x y
   ·have hp2:(y.a==x.a&&y.b==x.b)=false:=hp
    simp only [go_sem,hp2,hw]
    refine ⟨m - 1,by omega,k+1,by omega,fun j z hj hz=>?_,rfl⟩
    by_cases hjk:j=k
    ·subst hjk;rw [hy] at hz;injection hz with hz;rw [← hz];exact hp
    ·exact hall j z (by omega) hz
   ·have hp2:(y.a==x.a&&y.b==x.b)=true:=hp
    simp only [go_sem,hp2,rgOf,h1,h2,eh,any_take_some hki hy hp,codeN,codeG,Bool.and_self,Bool.true_eq_false]
  ·obtain rfl:k=i:=by omega
   have f1:((k:Int)<(k:Int))=False:=eq_false (by omega)
   have hany:=any_take_none hall
   simp only [go_sem,f1,decide_false,rgOf,h1,h2,eh,hany,codeN,codeG,Bool.and_self,Bool.true_eq_false,Bool.false_eq_true]
theorem R_source (w : NW) (h : w.OK) (i : Nat) (x : NSc) (hx : w.scs[i]? = some x) : AC Tryz.prog f_q87 [.agg (netV w),.lit (.int .i64 (i : Nat))] (.lit (.int .i64 (codeN (scOf w.net w.scs i x)))):= by
  have hi : i < w.scs.length:= (List.getElem?_eq_some_iff.1 hx).1
  have hl:= h.l6
  have hl3:= h.l3
  have ha:= h.scs x (List.mem_of_getElem? hx)
  have hg:= h.scg x (List.mem_of_getElem? hx)
  refine ac_q87 ?_ (Nat.le_add_left 2 _)
  simp only [go_sem,c_q87,netV,Int.toNat_natCast,Int.natCast_nonneg,List.getElem?_map,hx,rowAgg,avSource,avU,List.length_map]
  refine callX_of (C_rPlace x.lk w.lks.length) ?_
  cases h2 : placeN x.lk w.lks.length
  · simp only [go_sem,h2,scOf,lk_len,codeN,codeG,Bool.not_false]
  obtain ⟨q,y0,hq,hy0⟩:= at_link h2
  have hat:= onAt_net x.s hq hy0
  have hI:= C_rIn y0.a y0.b x.s (h.lka y0 (List.mem_of_getElem? hy0)) ha
  have hG:= C_rGroup x.g hg
  simp only [avPfx,avU] at hI hG
  cases h3 : x.s == 0
  case true =>
    have e : onN y0 x.s = false:= by simp only [onN,h3,Bool.not_true,Bool.false_and]
    simp only [go_sem,h2,Bool.not_true,nb0,h3,scOf,lk_len,hat,e,codeN,codeG,Bool.true_eq_false]
  simp only [go_sem,Bool.not_true,nb0,h3,hq,hy0,Int.toNat_natCast,Int.natCast_nonneg,List.getElem?_map,rowAgg,avLink,avStr,avU]
  refine callX_of hI ?_
  cases h4 : inN y0.a y0.b x.s
  · have e : onN y0 x.s = false:= by simp only [onN,h4,Bool.and_false]
    simp only [go_sem,h2,Bool.not_false,scOf,lk_len,← hq,hat,e,codeN,codeG,Bool.true_eq_false]
  have e : onN y0 x.s = true:= by simp only [onN,h3,h4,Bool.not_false,Bool.and_self]
  simp only [go_sem,Bool.not_true]
  refine callX_of hG ?_
  cases h5 : groupN x.g
  · simp only [go_sem,h2,Bool.not_false,scOf,lk_len,← hq,hat,e,h5,codeN,codeG,Bool.true_eq_false]
  simp only [go_sem,Bool.not_true]
  refine aw_loop (fun m E => ∃ k : Nat,k + m = i ∧ (∀ (j : Nat) (y : NSc),j < k → w.scs[j]? = some y → p_source_1 x y = false) ∧ E = mkE [(1,.lit (.int .i64 (i : Nat))),(2,.lp 2 0),(5,.lp 5 0),(6,.lit (.int .i64 (k : Nat)))] [(2,netV w),(5,[.lit (.int .i64 x.lk),avU x.s,avU x.g])]) i ?_ ?_
  · exact ⟨0,by omega,fun j y hj => absurd hj (Nat.not_lt_zero j),by simp only [go_sem,Int.natCast_zero,← hq]; rfl⟩
  · rintro m _ ⟨k,hk,hall,rfl⟩
    by_cases hki : k < i
    · have f1 : ((k : Int) < (i : Int)) = True:= eq_true (by omega)
      obtain ⟨y,hy⟩ : ∃ y,w.scs[k]? = some y:= ⟨w.scs[k],List.getElem?_eq_getElem (by omega)⟩
      have hw:= wrap_succ k (by omega)
      have hS:= C_rSameKey y.s y.g x.s x.g
      simp only [avU] at hS
      have go : p_source_1 x y = false → ∀ (j : Nat) (z : NSc),j < k + 1 → w.scs[j]? = some z → p_source_1 x z = false:= fun hp j z hj hz => by
        by_cases hjk : j = k
        · subst hjk; rw [hy] at hz; injection hz with hz; rw [← hz]; exact hp
        · exact hall j z (by omega) hz
      simp only [go_sem,f1,decide_true,netV,Int.toNat_natCast,Int.natCast_nonneg,List.getElem?_map,hy,rowAgg,avSource,avU]
      refine callX_of hS ?_
      cases e0 : (y.s == x.s) <;> cases e1 : (y.g == x.g) <;> cases e2 : (y.lk == x.lk) <;> simp only [go_sem,nat_beqb,e0,e1,e2,hw,bne,Bool.true_and,Bool.false_and,Bool.not_true,Bool.not_false]
      all_goals first
        | exact ⟨m - 1,by omega,k + 1,by omega,go (by simp only [p_source_1,e0,e1,e2,bne]; rfl),rfl⟩
        | (have hp : p_source_1 x y = true:= by simp only [p_source_1,e0,e1,e2,bne]; rfl
           simp only [scOf,lk_len,h2,← hq,hat,e,h5,any_take_some hki hy hp,codeN,codeG,Bool.true_or,Bool.true_eq_false,if_false,if_true])
    · obtain rfl : k = i:= by omega
      have f1 : ((k : Int) < (k : Int)) = False:= eq_false (by omega)
      have hany:= any_take_none hall
      simp only [go_sem,f1,decide_false]
      refine aw_loop (fun m E => ∃ j : Nat,j + m = w.pts.length ∧ (∀ (r : Nat) (y : NPt),r < j → w.pts[r]? = some y → p_source_2 x y = false) ∧ E = mkE [(2,.lp 2 0),(5,.lp 5 0),(8,.lit (.int .i64 (j : Nat)))] [(2,netV w),(5,[.lit (.int .i64 x.lk),avU x.s,avU x.g])]) w.pts.length ?_ ?_
      · exact ⟨0,by omega,fun j y hj => absurd hj (Nat.not_lt_zero j),by simp only [go_sem,Int.natCast_zero]⟩
      · rintro m _ ⟨j,hj,hall2,rfl⟩
        by_cases hjl : j < w.pts.length
        · have f2 : ((j : Int) < (w.pts.length : Int)) = True:= eq_true (by omega)
          obtain ⟨y,hy⟩ : ∃ y,w.pts[j]? = some y:= ⟨w.pts[j],List.getElem?_eq_getElem hjl⟩
          have hw:= wrap_succ j (by omega)
          cases hp : p_source_2 x y
          · have hp2 : (y.a == x.s) = false:= hp
            simp only [go_sem,f2,decide_true,netV,Int.toNat_natCast,Int.natCast_nonneg,List.getElem?_map,List.length_map,hy,rowAgg,avPort,avU,nat_beqb,hp2,hw]
            refine ⟨m - 1,by omega,j + 1,by omega,fun r z hr hz => ?_,rfl⟩
            by_cases hrj : r = j
            · subst hrj; rw [hy] at hz; injection hz with hz; rw [← hz]; exact hp
            · exact hall2 r z (by omega) hz
          · have hp2 : (y.a == x.s) = true:= hp
            have hany2 : w.pts.any (p_source_2 x) = true:= List.any_eq_true.2 ⟨y,List.mem_of_getElem? hy,hp⟩
            simp only [go_sem,f2,decide_true,netV,Int.toNat_natCast,Int.natCast_nonneg,List.getElem?_map,List.length_map,hy,rowAgg,avPort,avU,nat_beqb,hp2,scOf,lk_len,pt_net,h2,hat,e,h5,hany2,codeN,codeG,Bool.or_true,Bool.true_eq_false]
        · have f2 : ((j : Int) < (w.pts.length : Int)) = False:= eq_false (by omega)
          have hany2 : w.pts.any (p_source_2 x) = false:= by
            have:= any_take_none (p:= p_source_2 x) (l:= w.pts) (i:= j) hall2
            rwa [List.take_of_length_le (by omega)] at this
          simp only [go_sem,f2,decide_false,netV,List.length_map,scOf,lk_len,pt_net,h2,hat,e,h5,hany,hany2,codeN,codeG,Bool.or_self,Bool.true_eq_false,Bool.false_eq_true]
end Go.Proofs.YtelbgkknneljeaaGreatDoor.VL
end

