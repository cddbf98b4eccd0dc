import Derived.Test.YtelbgkknneljeaaGreatDoorGe12
set_option linter.unusedVariables false
set_option linter.unusedSimpArgs false
section
set_option maxHeartbeats 4000000
namespace Go.Proofs.YtelbgkknneljeaaGreatDoor.VL
open Go.RowKit Go.Proofs
def QE (w:NW) (r c:Int) (v a d:Nat):Env:=mkE [(1,.lit (.int .i64 r)),(2,avU a),(3,.lp 3 0),(6,.lp 6 0),(8,.lit (.int .i64 c)),(9,avU v),(10,.lit (.int .i64 (d:Nat)))] [(3,netV w),(6,[.lit (.int .i64 0),.lit (.int .u32 0),.lit (.int .i64 0)])]
theorem ref_look {w:NW} (hv:vNet w=none)(r:Int)(a:Nat):refN w r 7 0 0 a=lookN w r 6 a:=by
 rw[refN_look hv r 6 0 0 a (Int.le_refl 0)]
 cases hl:lookN w r 6 a with
 | none=>rfl
 | some q=>
  obtain ⟨p,v,c⟩:=q
  have hc:=lookN_cost hv r 6 a p v c hl
  simp only[Option.map_some,Option.some.injEq,Prod.mk.injEq,true_and]
  refine ⟨?_,?_⟩
  ·split<;>omega
  ·rw[if_pos (by omega)]
   omega
theorem C_rLook (w:NW) (h:w.OK) (hf:w.Fit) (hv:vNet w=none) (r:Int) (a0:Nat) (ha0:a0<4294967296):AC Tryz.prog f_q11 [.agg (netV w),.lit (.int .i64 r),avU a0] (lookV (lookN w r 6 a0)):=by
 rw [← ref_look hv]
 refine ac_q11 ?_ (Nat.le_add_left 3 _) (resOK_look _)
 simp only [go_sem,c_q11,one_net,len_net,take_net,Nat.le_refl,avU]
 generalize hT:refN w r 7 0 0 a0=T
 refine aw_loop (fun m E=>∃ (d:Nat) (c:Int) (v a:Nat),d+m=7∧refN w r (7 - d) c v a=T∧0≤c∧c≤(d:Int) * 65535∧a<4294967296∧E=QE w r c v a d) 7 ?_ ?_
 ·exact ⟨0,0,0,a0,rfl,hT,by decide,by decide,ha0,rfl⟩
 ·rintro m _ ⟨d,c,v,a,hdm,hT,hc0,hc1,ha,rfl⟩
  have hrI:=fun x=>avRow_some 1 .none (AV.lit x) rfl
  by_cases hd:d<7
  ·have f1:((d:Int)≤6)=True:=eq_true (by omega)
   have hw:=wrap_succ d (by omega)
   obtain ⟨n,hn⟩:∃ n,7 - d=n+1:=⟨6 - d,by omega⟩
   rw [hn] at hT
   have hR1:∀ i,i∈rouW w r a→∃ x,w.ros[i]?=some x:=fun i=>rouW_mem
   have hRl:=rouW_len w r a
   have h4:=hf.l4
   have hbest:∀ i l,rouW w r a=i::l→RouteOK w (roAt w (bestR w l i)):=fun i l e=>best_ok hv e
   have hcon:0≤conW w r a→∃ p:Nat,conW w r a=(p:Int)∧p<w.pts.length:=by
    intro h0
    rcases conS_ok w a (ofW w r) _ (Nat.le_refl _) with h2 | ⟨q,hq,h2,_⟩
    ·simp only [conW,h2] at h0;omega
    ·exact ⟨q,by simp only [conW,h2],of_mem hq⟩
   have hC:=C_rConnected w h hf hv r a ha
   have hR:=C_rRoutes w h hf r a ha
   have k00:(((0:Nat):Int)==0)=true:=rfl
   have emin:(if 65535<c then (65535:Int) else c)=if c≤65535 then c else 65535:=by
    split<;>split<;>omega
   simp only [avU] at hC hR
   have hat:=atB_eq w r a
   generalize hcE:conW w r a=cc at *
   generalize hRE:rouW w r a=R at *
   simp only [go_sem,QE,avU,f1,decide_true,low_net,one_net,len_net,take_net,Nat.le_refl]
   refine callX_of hC ?_
   simp only [go_sem,low_net,one_net,len_net,take_net,Nat.le_refl]
   refine callX_of hR ?_
   cases R with
   | nil=>
    by_cases h0:0≤cc
    ·obtain ⟨p,rfl,hpl⟩:=hcon h0
     have g0:(0≤(p:Int))=True:=eq_true h0
     rw [refN_at (by rw [hat];simp [atB]),hcE,Int.toNat_natCast] at hT
     rw [← hT]
     simp only [go_sem,g0,k00,decide_true,List.length_nil,List.map_nil,avMm_min',emin,lookV,wayV,avI,avU]
    ·have g0:(0≤cc)=False:=eq_false h0
     rw [refN_nil (by rw [hat];simp [atB,h0]) hRE] at hT
     rw [← hT]
     simp only [go_sem,g0,k00,decide_false,List.length_nil,List.map_nil,lookV,way0]
   | cons i l=>
    obtain ⟨x,hx⟩:=hR1 i (by simp)
    have hxi:=roAt_of hx
    have hb:=hbest i l rfl
    have kl:(((l.length+1:Nat):Int)==0)=false:=by simp;omega
    have hvia:∀ b,b=bestR w l i→∃ x3,w.ros[b]?=some x3∧roAt w b=x3∧x3.via<4294967296:=by
     rintro b rfl
     have hm:bestR w l i∈i::l:=by
      rcases bestR_mem w l i with h | h
      ·rw [h];simp
      ·simp [h]
     obtain ⟨x3,hx3⟩:=hR1 _ hm
     exact ⟨x3,hx3,roAt_of hx3,h.rov x3 (List.mem_of_getElem? hx3)⟩
    have h3:(∃ (p:Nat) (x2:NPt) (k2:Nat) (y2:NLk),cc=(p:Int)∧w.pts[p]?=some x2∧x2.lk=(k2:Int)∧w.lks[k2]?=some y2∧pfxW w p=y2∧x.b≤y2.b) ∨
      (∃ (p:Nat) (x2:NPt) (k2:Nat) (y2:NLk),cc=(p:Int)∧w.pts[p]?=some x2∧x2.lk=(k2:Int)∧w.lks[k2]?=some y2∧pfxW w p=y2∧¬ x.b≤y2.b)∨¬ 0≤cc:=by
     by_cases h0:0≤cc
     ·obtain ⟨p,rfl,hpl⟩:=hcon h0
      obtain ⟨x2,hx2⟩:∃ y,w.pts[p]?=some y:=⟨w.pts[p],List.getElem?_eq_getElem hpl⟩
      obtain ⟨k2,y2,hk2,hy2,hpf⟩:=pfx_of hv hx2
      by_cases hge:x.b≤y2.b
      ·exact .inl ⟨p,x2,k2,y2,rfl,hx2,hk2,hy2,hpf,hge⟩
      ·exact .inr (.inl ⟨p,x2,k2,y2,rfl,hx2,hk2,hy2,hpf,hge⟩)
     ·exact .inr (.inr h0)
    simp only [atB,hxi] at hat
    rcases h3 with ⟨p,x2,k2,y2,rfl,hx2,hk2,hy2,hpf,hge⟩ | ⟨p,x2,k2,y2,rfl,hx2,hk2,hy2,hpf,hge⟩ | h0
    ·have g0:(0≤(p:Int))=True:=eq_true (by omega)
     have g1:(x.b≤y2.b)=True:=eq_true hge
     have g2:(y2.b ≥ x.b)=True:=eq_true hge
     rw [Int.toNat_natCast,hpf] at hat
     rw [refN_at (by rw [hat];simp [hge]),hcE,Int.toNat_natCast] at hT
     rw [← hT]
     simp only [go_sem,g0,kl,g1,g2,decide_true,netV,Int.natCast_nonneg,Int.toNat_natCast,Int.toNat_zero,Int.le_refl,List.length_cons,List.length_map,List.getElem?_map,List.getElem?_cons_zero,hx,hx2,hk2,hy2,hrI,Option.map_some,rowAgg,avPort,avLink,avRoute,avStr,avU,avI,avMm_min',emin,lookV,wayV]
    have g0:(0≤(p:Int))=True:=eq_true (by omega)
    have g1:(x.b≤y2.b)=False:=eq_false hge
    have g2:(y2.b ≥ x.b)=False:=eq_false hge
    rw [Int.toNat_natCast,hpf] at hat
    rw [refN_cons (by rw [hat];simp [hge]) hRE] at hT
    simp only [go_sem,g0,kl,g1,g2,decide_true,decide_false,netV,Int.natCast_nonneg,Int.toNat_natCast,Int.toNat_zero,Int.le_refl,List.length_cons,List.length_map,List.getElem?_map,List.getElem?_cons_zero,List.map_cons,hx,hx2,hk2,hy2,hrI,Option.map_some,rowAgg,avPort,avLink,avRoute,avStr,avU,avI]
    rotate_left
    have g0:(0≤cc)=False:=eq_false h0
    rw [refN_cons (by rw [hat];simp [h0]) hRE] at hT
    simp only [go_sem,g0,kl,decide_true,decide_false,netV,Int.natCast_nonneg,Int.toNat_natCast,Int.toNat_zero,Int.le_refl,List.length_cons,List.length_map,List.getElem?_map,List.getElem?_cons_zero,List.map_cons,hx,hrI,Option.map_some,avU,avI]
    rotate_left
    all_goals
     refine aw_loop (fun m E=>∃ k:Nat,k+m=l.length∧E=mkE [(1,.lit (.int .i64 r)),(3,.lp 3 0),(6,.lp 6 0),(8,.lit (.int .i64 c)),(10,.lit (.int .i64 (d:Nat))),(12,.sl .none 1 ((i::l).map avI)),(13,avI (bestR w (l.take k) i)),(14,.lit (.int .i64 ((k+1:Nat):Int)))] [(3,netV w),(6,[.lit (.int .i64 0),.lit (.int .u32 0),.lit (.int .i64 0)])]) l.length ?_ ?_
     ·exact ⟨0,by omega,by rw [List.take_zero];rfl⟩
     ·rintro m' _ ⟨k,hk,rfl⟩
      by_cases hkl:k<l.length
      ·have q1:(((k+1:Nat):Int)<((l.length+1:Nat):Int))=True:=eq_true (by omega)
       have hw2:=wrap_succ (k+1) (by simp only [List.length_cons] at hRl;omega)
       obtain ⟨j,hj⟩:∃ j,l[k]?=some j:=⟨l[k],List.getElem?_eq_getElem hkl⟩
       obtain ⟨xj,hxj⟩:=hR1 j (List.mem_cons_of_mem _ (List.mem_of_getElem? hj))
       have e1:bestR w (l.take (k+1)) i=bestStep w (bestR w (l.take k) i) j:=by
        rw [List.take_add_one,hj,Option.toList_some,bestR_snoc]
       have hbm:bestR w (l.take k) i∈i::l:=by
        rcases bestR_mem w (l.take k) i with h | h
        ·rw [h];simp
        ·exact List.mem_cons_of_mem _ (List.mem_of_mem_take h)
       obtain ⟨xb,hxb⟩:=hR1 _ hbm
       simp only [bestStep,roAt_of hxj,roAt_of hxb] at e1
       generalize bestR w (l.take k) i=b at *
       by_cases hlt:xj.cost<xb.cost
       ·have g3:(xj.cost<xb.cost)=True:=eq_true hlt
        rw [if_pos hlt] at e1
        simp only [go_sem,q1,g3,netV,decide_true,Int.natCast_nonneg,Int.toNat_natCast,List.length_cons,List.length_map,List.map_cons,List.getElem?_cons_succ,List.getElem?_map,hj,hxj,hxb,hrI,Option.map_some,rowAgg,avRoute,avU,avI,hw2]
        exact ⟨m' - 1,by omega,k+1,by omega,by rw [e1]⟩
       ·have g3:(xj.cost<xb.cost)=False:=eq_false hlt
        rw [if_neg hlt] at e1
        simp only [go_sem,q1,g3,netV,decide_true,decide_false,Int.natCast_nonneg,Int.toNat_natCast,List.length_cons,List.length_map,List.map_cons,List.getElem?_cons_succ,List.getElem?_map,hj,hxj,hxb,hrI,Option.map_some,rowAgg,avRoute,avU,avI,hw2]
        exact ⟨m' - 1,by omega,k+1,by omega,by rw [e1]⟩
      ·have q1:(((k+1:Nat):Int)<((l.length+1:Nat):Int))=False:=eq_false (by omega)
       rw [List.take_of_length_le (by omega)]
       obtain ⟨x3,hx3,e3,hvl⟩:=hvia _ rfl
       rw [e3] at hb hT
       have hb0:=hb.c0
       have hb1:=hb.c1
       have hwc:IntKind.wrap .i64 (c+x3.cost)=c+x3.cost:=iw _ (by omega) (by omega)
       generalize bestR w l i=b at *
       simp only [go_sem,q1,netV,decide_false,Int.natCast_nonneg,Int.toNat_natCast,List.length_cons,List.length_map,List.map_cons,List.getElem?_map,hx3,hrI,Option.map_some,rowAgg,avRoute,avU,avI,hwc,hw]
       clear hcon
       exact ⟨m - 1,by omega,d+1,c+x3.cost,x3.via,x3.via,by omega,by rw [show 7 - (d+1)=n by omega];exact hT,by omega,by push_cast;omega,hvl,rfl⟩
  ·have f1:((d:Int)≤6)=False:=eq_false (by omega)
   rw [show 7 - d=0 by omega,refN] at hT
   rw [← hT]
   simp only [go_sem,QE,f1,decide_false,lookV,way0]
end Go.Proofs.YtelbgkknneljeaaGreatDoor.VL
end

section
set_option maxHeartbeats 4000000
namespace Go.Proofs.YtelbgkknneljeaaGreatDoor.VL
open Go.RowKit Go.Proofs
def rootStep (b:Bool)(g:Nat)(s:Nat×Int)(r:NRg):Nat×Int:=if b&&(inN r.a r.b g&&decide (s.2<r.b)) then (r.root,r.b) else s
def rootS (w:NW) (b:Bool) (g i:Nat):Nat × Int:=(w.rgs.take i).foldl (rootStep b g) (0,-1)
theorem rootS_succ {w:NW} {b:Bool} {g i:Nat} {x:NRg} (hx:w.rgs[i]?=some x):rootS w b g (i+1)=rootStep b g (rootS w b g i) x:=by
 rw[rootS,List.take_add_one,hx,Option.toList_some,List.foldl_append]
 rfl
def rootA (w:NW)(g:Nat):Nat:=(rootS w (groupN g) g w.rgs.length).1
def rootI (w:NW)(g:Nat):Bool:=decide (0≤(rootS w (groupN g) g w.rgs.length).2)
theorem C_rootOf (w:NW) (h:w.OK) (g:Nat) (hg:g<4294967296) (hl:w.rgs.length<9223372036854775808):AC Tryz.prog f_q53 [.rp (topoV w),avU g] (.tup [avU (rootA w g),.lit (.bool (rootI w g))]):=by
 refine ac_q53 ?_ (Nat.le_add_left 2 _)
 simp only [go_sem,c_q53]
 refine callX_of (C_Raw w) ?_
 simp only [go_sem,netV,List.length_map]
 refine aw_loop (fun m E=>∃ i:Nat,i+m=w.rgs.length∧E=mkE [(1,avU g),(6,avU (rootS w (groupN g) g i).1),(7,.lit (.int .i64 (rootS w (groupN g) g i).2)),(14,.sl .none 3 (w.rgs.map avRange)),(15,.lit (.int .i64 (w.rgs.length:Nat))),(16,.lit (.int .i64 (i:Nat)))] []) w.rgs.length ?_ ?_
 ·exact ⟨0,by omega,by simp only [go_sem,Int.natCast_zero,rootS,List.take_zero,List.foldl_nil,avU]⟩
 ·rintro m _ ⟨i,him,rfl⟩
  by_cases hil:i<w.rgs.length
  ·have f1:((i:Int)<(w.rgs.length:Int))=True:=eq_true (by omega)
   obtain ⟨x,hx⟩:∃ x,w.rgs[i]?=some x:=⟨w.rgs[i],List.getElem?_eq_getElem hil⟩
   have hw:=wrap_succ i (by omega)
   have hs:=rootS_succ (b:=groupN g) (g:=g) hx
   have hxm:=List.mem_of_getElem? hx
   have hI:=C_In x.a x.b g (h.rga x hxm) hg
   generalize hS:rootS w (groupN g) g i=S at *
   simp only [go_sem,f1,decide_true,Int.natCast_nonneg,Int.toNat_natCast,List.getElem?_map,hx,Option.map_some,rowAgg,avRange,avU]
   refine callX_of (C_Group g hg) ?_
   cases hgr:groupN g
   all_goals rw [hgr] at hs
   ·simp only [go_sem,hw]
    exact ⟨m - 1,by omega,i+1,by omega,by simp only [hs,rootStep,Bool.false_and];rfl⟩
   ·simp only [go_sem]
    refine callX_of hI ?_
    cases hin:inN x.a x.b g
    ·simp only [go_sem,hw]
     exact ⟨m - 1,by omega,i+1,by omega,by simp only [hs,rootStep,hin,Bool.false_and,Bool.and_false];rfl⟩
    ·by_cases hlt:S.2<x.b
     ·have f2:(S.2<x.b)=True:=eq_true hlt
      have f3:(x.b > S.2)=True:=eq_true hlt
      simp only [go_sem,f2,f3,decide_true,hw]
      exact ⟨m - 1,by omega,i+1,by omega,by simp only [hs,rootStep,hin,hlt,decide_true,Bool.and_self];rfl⟩
     ·have f2:(S.2<x.b)=False:=eq_false hlt
      have f3:(x.b > S.2)=False:=eq_false hlt
      simp only [go_sem,f2,f3,decide_false,hw]
      exact ⟨m - 1,by omega,i+1,by omega,by simp only [hs,rootStep,hin,hlt,decide_false,Bool.and_false];rfl⟩
  ·have f1:((i:Int)<(w.rgs.length:Int))=False:=eq_false (by omega)
   have e:i=w.rgs.length:=by omega
   subst e
   simp only [go_sem,f1,decide_false,rootA,rootI,avU]
theorem C_rRoot (w:NW) (h:w.OK) (g:Nat) (hg:g<4294967296) (hl:w.rgs.length<9223372036854775808):AC Tryz.prog f_q54 [.agg (netV w),avU g] (.tup [avU (rootS w true g w.rgs.length).1,.lit (.bool (decide (0≤(rootS w true g w.rgs.length).2)))]):=by
 refine ac_q54 ?_ (Nat.le_add_left 2 _)
 simp only [go_sem,c_q54,one_net,len_net,take_net,Nat.le_refl,avU]
 refine aw_loop (fun m E=>∃ i:Nat,i+m=w.rgs.length∧E=mkE [(1,avU g),(2,.lp 2 0),(6,.lit (.int .i64 (rootS w true g i).2)),(7,avU (rootS w true g i).1),(8,.lit (.int .i64 (i:Nat)))] [(2,netV w)]) w.rgs.length ?_ ?_
 ·exact ⟨0,by omega,by simp only [go_sem,Int.natCast_zero,rootS,List.take_zero,List.foldl_nil,avU]⟩
 ·rintro m _ ⟨i,him,rfl⟩
  by_cases hil:i<w.rgs.length
  ·have f1:((i:Int)<(w.rgs.length:Int))=True:=eq_true (by omega)
   obtain ⟨x,hx⟩:∃ x,w.rgs[i]?=some x:=⟨w.rgs[i],List.getElem?_eq_getElem hil⟩
   have hw:=wrap_succ i (by omega)
   have hs:=rootS_succ (b:=true) (g:=g) hx
   have hxm:=List.mem_of_getElem? hx
   have hI:=C_rIn x.a x.b g (h.rga x hxm) hg
   generalize hS:rootS w true g i=S at *
   simp only [go_sem,netV,List.length_map,f1,decide_true,Int.natCast_nonneg,Int.toNat_natCast,List.getElem?_map,hx,Option.map_some,rowAgg,avRange,avU]
   refine callX_of hI ?_
   cases hin:inN x.a x.b g
   ·simp only [go_sem,hw,Int.natCast_nonneg,Int.toNat_natCast,List.getElem?_map,hx,Option.map_some,rowAgg,avRange,avU]
    exact ⟨m - 1,by omega,i+1,by omega,by simp only [hs,rootStep,hin,Bool.false_and,Bool.and_false];rfl⟩
   ·by_cases hlt:S.2<x.b
    ·have f2:(S.2<x.b)=True:=eq_true hlt
     have f3:(x.b > S.2)=True:=eq_true hlt
     simp only [go_sem,f2,f3,decide_true,hw,Int.natCast_nonneg,Int.toNat_natCast,List.getElem?_map,hx,Option.map_some,rowAgg,avRange,avU]
     exact ⟨m - 1,by omega,i+1,by omega,by simp only [hs,rootStep,hin,hlt,decide_true,Bool.and_self];rfl⟩
    ·have f2:(S.2<x.b)=False:=eq_false hlt
     have f3:(x.b > S.2)=False:=eq_false hlt
     simp only [go_sem,f2,f3,decide_false,hw,Int.natCast_nonneg,Int.toNat_natCast,List.getElem?_map,hx,Option.map_some,rowAgg,avRange,avU]
     exact ⟨m - 1,by omega,i+1,by omega,by simp only [hs,rootStep,hin,hlt,decide_false,Bool.and_false];rfl⟩
  ·have f1:((i:Int)<(w.rgs.length:Int))=False:=eq_false (by omega)
   have e:i=w.rgs.length:=by omega
   subst e
   simp only [go_sem,netV,List.length_map,f1,decide_false,avU]
theorem find_none_take {α:Type} (p:α→Bool)(l:List α)(i:Nat)(h:∀ (j:Nat)(y:α),j<i→l[j]?=some y→p y=false)(x:α)(hx:l[i]?=some x)(hp:p x=true):l.findIdx? p=some i:=by
 rw[List.findIdx?_eq_some_iff_getElem]
 obtain ⟨hi,e⟩:=List.getElem?_eq_some_iff.1 hx
 refine ⟨hi,by rw[e];exact hp,fun j hj=>?_⟩
 have:=h j l[j] hj (List.getElem?_eq_getElem (by omega))
 simp[this]
theorem C_rAt (w:NW) (a:Nat) (hl:w.pts.length<9223372036854775808):AC Tryz.prog f_q52 [.agg (netV w),avU a] (.lit (.int .i64 (match atP w a with | some i=>(i:Int) | none=>-1))):=by
 refine ac_q52 ?_ (Nat.le_add_left 2 _)
 simp only [go_sem,c_q52,one_net,len_net,take_net,Nat.le_refl,avU]
 refine aw_loop (fun m E=>∃ i:Nat,i+m=w.pts.length∧(∀ (j:Nat) (y:NPt),j<i→w.pts[j]?=some y→(y.a==a)=false)∧E=mkE [(1,avU a),(2,.lp 2 0),(5,.lit (.int .i64 (i:Nat)))] [(2,netV w)]) w.pts.length ?_ ?_
 ·exact ⟨0,by omega,fun j y hj=>absurd hj (Nat.not_lt_zero j),by simp only [go_sem,Int.natCast_zero,avU]⟩
 ·rintro m _ ⟨i,him,hall,rfl⟩
  by_cases hil:i<w.pts.length
  ·have f1:((i:Int)<(w.pts.length:Int))=True:=eq_true (by omega)
   obtain ⟨x,hx⟩:∃ x,w.pts[i]?=some x:=⟨w.pts[i],List.getElem?_eq_getElem hil⟩
   have hw:=wrap_succ i (by omega)
   cases hp:x.a==a
   ·simp only [go_sem,netV,List.length_map,f1,decide_true,Int.natCast_nonneg,Int.toNat_natCast,List.getElem?_map,hx,Option.map_some,rowAgg,avPort,avU,nat_beqb,hp,hw]
    refine ⟨m - 1,by omega,i+1,by omega,fun j y hj hy=>?_,rfl⟩
    by_cases hji:j=i
    ·subst hji;rw [hx] at hy;injection hy with hy;rw [← hy];exact hp
    ·exact hall j y (by omega) hy
   ·have e:atP w a=some i:=find_none_take _ _ _ hall x hx hp
    simp only [go_sem,netV,List.length_map,f1,decide_true,Int.natCast_nonneg,Int.toNat_natCast,List.getElem?_map,hx,Option.map_some,rowAgg,avPort,avU,nat_beqb,hp,e]
  ·have f1:((i:Int)<(w.pts.length:Int))=False:=eq_false (by omega)
   have e:atP w a=none:=by
    unfold atP
    rw [List.findIdx?_eq_none_iff]
    intro x hx
    obtain ⟨j,hj⟩:=List.getElem?_of_mem hx
    have hjl:=(List.getElem?_eq_some_iff.1 hj).1
    exact hall j x (by omega) hj
   simp only [go_sem,netV,List.length_map,f1,decide_false,e]
end Go.Proofs.YtelbgkknneljeaaGreatDoor.VL
end

section
set_option maxHeartbeats 4000000
namespace Go.Proofs.YtelbgkknneljeaaGreatDoor.VL
open Go.RowKit Go.Proofs
theorem range_group {w:NW} (hv:vNet w=none) {x:NRg} (hm:x∈w.rgs) {g:Nat} (h:inN x.a x.b g=true):groupN g=true:=by
 obtain ⟨i,hx⟩:=List.getElem?_of_mem hm
 have hi:i<w.rgs.length:=(List.getElem?_eq_some_iff.1 hx).1
 have h0:=(vNet_ok hv 4 i (by decide) hi).2
 simp only[vAt,hx,Option.bind_some,rgOf] at h0
 obtain ⟨h1,h0⟩:=ite_none h0
 obtain ⟨h2,h0⟩:=ite_none h0
 simp only[Bool.not_eq_false,Bool.and_eq_true] at h1 h2
 have hw:=h2.1
 simp only[withinN,inN,Bool.and_eq_true,decide_eq_true_eq] at hw h
 obtain ⟨_,hb,_,he⟩:=hw
 obtain ⟨_,h⟩:=h
 obtain ⟨k,hk⟩: ∃ k,32 - x.b.toNat=k∧k≤28:=⟨_,rfl,by omega⟩
 rw[hk.1] at h
 have hM:2 ^ 28=2 ^ k*2 ^ (28 - k):=by rw[←Nat.pow_add];congr 1;omega
 have hD:0<2 ^ k:=Nat.two_pow_pos k
 generalize hDD:2 ^ k=D at *
 generalize 2 ^ (28 - k)=M at *
 have hlt:=Nat.mod_lt g hD
 have hxa:x.a=D*(g / D):=by have:=Nat.div_add_mod g D;omega
 have e28:2 ^ (32 - Int.toNat 4)=268435456:=by decide
 rw[e28] at he
 have h28:(268435456:Nat)=D*M:=by rw[←hM]
 have hlo:3758096384≤x.a:=by omega
 have hhi:x.a<4026531840:=by
  have:=Nat.mod_lt x.a (show 0<268435456 by decide)
  omega
 have h15:x.a<D*(15*M):=by
  rw[Nat.mul_left_comm,←h28]
  exact hhi
 have hq:g / D<15*M:=by
  rw[hxa] at h15
  exact Nat.lt_of_mul_lt_mul_left h15
 have hup:D*(g / D+1)≤D*(15*M):=Nat.mul_le_mul_left D hq
 have h15e:D*(15*M)=4026531840:=by rw[Nat.mul_left_comm,←h28]
 rw[h15e,Nat.mul_add,Nat.mul_one,←hxa] at hup
 have hdm:=Nat.div_add_mod g D
 simp only[groupN,Bool.and_eq_true,decide_eq_true_eq]
 omega
theorem rootS_eq {w:NW} (hv:vNet w=none)(g:Nat):rootS w true g w.rgs.length=rootS w (groupN g) g w.rgs.length:=by
 cases hg:groupN g
 ·have key:∀ (b:Bool)(l:List NRg)(s:Nat×Int),(∀ x∈l,x∈w.rgs)→l.foldl (rootStep b g) s=s:=by
   intro b l
   induction l with
   | nil=>intro s _;rfl
   | cons x l ih=>
    intro s hl
    have hx:inN x.a x.b g=false:=by
     cases h:inN x.a x.b g
     ·rfl
     ·rw[range_group hv (hl x (by simp)) h] at hg;cases hg
    have e:rootStep b g s x=s:=by simp[rootStep,hx]
    rw[List.foldl_cons,e]
    exact ih s fun y hy=>hl y (by simp[hy])
  unfold rootS
  rw[key true _ _ fun x hx=>List.mem_of_mem_take hx,key false _ _ fun x hx=>List.mem_of_mem_take hx]
 ·rfl
end Go.Proofs.YtelbgkknneljeaaGreatDoor.VL
end

section
set_option maxHeartbeats 4000000
namespace Go.Proofs.YtelbgkknneljeaaGreatDoor.VL
open Go.RowKit Go.Proofs
theorem C_rTo (w:NW) (h:w.OK) (hf:w.Fit) (hv:vNet w=none) (r:Int) (hr:0≤r∧r<(w.rts.length:Int)) (a:Nat) (ha:a<4294967296):AC Tryz.prog f_q25 [.agg (netV w),.lit (.int .i64 r),avU a] (toV (toN w r a)):=by
 have h3:=hf.l3
 have hA:=fun x=>C_rAt w x (by omega)
 have hL:=C_rLook w h hf hv r a ha
 simp only [avU] at hA hL
 refine ac_q25 ?_ (Nat.le_add_left 3 _) (resOK_to _)
 simp only [go_sem,c_q25,low_net,one_net,len_net,take_net,Nat.le_refl,avU]
 refine callX_of (hA a) ?_
 unfold toN
 rw [if_pos hr]
 have n1:((-1:Int) ≥ 0)=False:=eq_false (by decide)
 have n2:(0≤(-1:Int))=False:=eq_false (by decide)
 have n3:∀ i:Nat,((i:Int) ≥ 0)=True:=fun i=>eq_true (by omega)
 have n4:∀ i:Nat,(0≤(i:Int))=True:=fun i=>eq_true (by omega)
 cases ho:ownW w r a
 case true=>
  unfold ownW at ho
  cases hat:atP w a with
  | none=>rw [hat] at ho;cases ho
  | some i=>
   obtain ⟨x,hx,_⟩:=atP_lt hat
   rw [hat] at ho
   simp only [hx] at ho
   simp only [go_sem,n3,n4,decide_true,netV,Int.natCast_nonneg,Int.toNat_natCast,List.getElem?_map,hx,Option.map_some,rowAgg,avPort,ho,toV,hopV]
 case false=>
  simp only [Bool.false_eq_true,if_false]
  have hg:atP w a=none∨∃ i x,atP w a=some i∧w.pts[i]?=some x∧(x.rt==r)=false:=by
   unfold ownW at ho
   cases hat:atP w a with
   | none=>exact .inl rfl
   | some i=>
    obtain ⟨x,hx,_⟩:=atP_lt hat
    rw [hat] at ho
    simp only [hx] at ho
    exact .inr ⟨i,x,rfl,hx,ho⟩
  rcases hg with hat | ⟨i,x,hat,hx,hxr⟩
  simp only [go_sem,hat,n1,n2,decide_false,low_net,one_net,len_net,take_net,Nat.le_refl]
  rotate_left
  simp only [go_sem,hat,n3,n4,decide_true,netV,Int.natCast_nonneg,Int.toNat_natCast,List.getElem?_map,hx,Option.map_some,rowAgg,avPort,hxr]
  all_goals
   refine callX_of hL ?_
   cases hl:lookN w r 6 a with
   | none=>simp only [go_sem,lookV,way0,toV,hop0]
   | some q=>
    obtain ⟨p,v,c⟩:=q
    have hp:=lookN_port r 6 a p v c hl
    obtain ⟨y,hy,hyr⟩:=of_rt hp
    simp only [go_sem,lookV,wayV,avI,avU,upR_eq hv hp]
    cases hv0:v==0
    case' false=>
     have e0:¬ v=0:=by simpa using hv0
     have b0:((v:Int)==0)=false:=by simp;omega
     rw [if_neg e0]
     simp only [go_sem,b0,low_net,one_net,len_net,take_net,Nat.le_refl]
     refine callX_of (hA v) ?_
     unfold upR
     cases hav:atP w v with
     | none=>simp only [go_sem,n1,n2,decide_false,toV,hopV]
     | some q=>
      obtain ⟨z,hz,_⟩:=atP_lt hav
      have hb:(z.rt !=r)=!(z.rt==r):=rfl
      cases h1:z.lk==y.lk<;>cases h2:z.rt==r<;>rw [h2] at hb<;>simp only [go_sem,n3,n4,decide_true,netV,Int.natCast_nonneg,Int.toNat_natCast,List.getElem?_map,hz,hy,Option.map_some,rowAgg,avPort,h1,h2,hb,toV,hopV,Bool.false_eq_true,if_false,if_true,Bool.not_true,Bool.not_false,Bool.and_true,Bool.and_false,Bool.and_self,Bool.true_and,Bool.false_and]
    have e0:v=0:=by simpa using hv0
    subst e0
    have b0:(((0:Nat):Int)==0)=true:=rfl
    rw [if_pos rfl]
    simp only [go_sem,b0,low_net,one_net,len_net,take_net,Nat.le_refl]
    refine callX_of (hA a) ?_
    unfold upR
    cases hav:atP w a with
    | none=>simp only [go_sem,n1,n2,decide_false,toV,hopV]
    | some q=>
     obtain ⟨z,hz,_⟩:=atP_lt hav
     have hb:(z.rt !=r)=!(z.rt==r):=rfl
     cases h1:z.lk==y.lk<;>cases h2:z.rt==r<;>rw [h2] at hb<;>simp only [go_sem,n3,n4,decide_true,netV,Int.natCast_nonneg,Int.toNat_natCast,List.getElem?_map,hz,hy,Option.map_some,rowAgg,avPort,h1,h2,hb,toV,hopV,Bool.false_eq_true,if_false,if_true,Bool.not_true,Bool.not_false,Bool.and_true,Bool.and_false,Bool.and_self,Bool.true_and,Bool.false_and]
def keyN (w:NW)(r:Int)(s g:Nat):Option HopN:=if s=0 then (if rootI w g=true then toN w r (rootA w g) else none) else toN w r s
theorem rootA_lt {w:NW} (h:w.OK) (g:Nat):rootA w g<4294967296:=by
 have key:∀ (b:Bool) (l:List NRg) (s:Nat × Int),(∀ x∈l,x.root<4294967296)→s.1<4294967296→(l.foldl (rootStep b g) s).1<4294967296:=by
  intro b l
  induction l with
  | nil=>intro s _ hs;exact hs
  | cons x l ih=>
   intro s hl hs
   rw [List.foldl_cons]
   refine ih _ (fun y hy=>hl y (by simp [hy])) ?_
   unfold rootStep
   split
   ·exact hl x (by simp)
   ·exact hs
 exact key _ _ _ (fun x hx=>h.rgr x (List.mem_of_mem_take hx)) (by decide)
theorem C_Key (w:NW) (h:w.OK) (hf:w.Fit) (hv:vNet w=none) (r:Int) (s g:Nat) (hs:s<4294967296) (hg:g<4294967296):AC Tryz.prog f_q28 [.rp (topoV w),.lit (.int .i64 r),.agg [avU s,avU g]] (toV (keyN w r s g)):=by
 have z5:w.rgs.length≤8:=len_le hv 4 (by decide)
 have hR:=C_rootOf w h g hg (by omega)
 have hT:=C_To w h hf hv r s hs
 have hT2:=C_To w h hf hv r (rootA w g) (rootA_lt h g)
 rw [toV_eq] at hT hT2
 simp only [avU] at hR hT hT2
 refine ac_q28 ?_ (Nat.le_add_left 3 _) (resOK_to _)
 simp only [go_sem,c_q28,avU]
 unfold keyN
 rw [toV_eq]
 cases hs0:s==0
 ·have e0:¬ s=0:=by simpa using hs0
  have b0:((s:Int) !=0)=true:=by simp;omega
  rw [if_neg e0]
  simp only [go_sem,b0]
  refine callX_of hT ?_
  cases toN w r s<;>simp only [go_sem,hopC,Option.isSome_none,Option.isSome_some]
 ·have e0:s=0:=by simpa using hs0
  subst e0
  have b0:(((0:Nat):Int) !=0)=false:=rfl
  rw [if_pos rfl]
  simp only [go_sem,b0]
  refine callX_of hR ?_
  cases hI:rootI w g
  ·simp only [go_sem,Bool.false_eq_true,if_false,hopC,Option.isSome_none]
  ·simp only [go_sem,if_true]
   refine callX_of hT2 ?_
   cases toN w r (rootA w g)<;>simp only [go_sem,hopC,Option.isSome_none,Option.isSome_some]
theorem C_rToKey (w:NW) (h:w.OK) (hf:w.Fit) (hv:vNet w=none) (r:Int) (hr:0≤r∧r<(w.rts.length:Int)) (s g:Nat) (hs:s<4294967296) (hg:g<4294967296):AC Tryz.prog f_q29 [.agg (netV w),.lit (.int .i64 r),.agg [avU s,avU g]] (toV (keyN w r s g)):=by
 have z5:w.rgs.length≤8:=len_le hv 4 (by decide)
 have hR:=C_rRoot w h g hg (by omega)
 rw [rootS_eq hv] at hR
 have hT:=C_rTo w h hf hv r hr s hs
 have hT2:=C_rTo w h hf hv r hr (rootA w g) (rootA_lt h g)
 rw [toV_eq] at hT hT2
 simp only [avU] at hR hT hT2
 refine ac_q29 ?_ (Nat.le_add_left 3 _) (resOK_to _)
 simp only [go_sem,c_q29,low_net,one_net,len_net,take_net,Nat.le_refl,avU]
 unfold keyN
 rw [toV_eq]
 cases hs0:s==0
 ·have e0:¬ s=0:=by simpa using hs0
  have b0:((s:Int) !=0)=true:=by simp;omega
  rw [if_neg e0]
  simp only [go_sem,b0,low_net,one_net,len_net,take_net,Nat.le_refl]
  refine callX_of hT ?_
  cases toN w r s<;>simp only [go_sem,hopC,Option.isSome_none,Option.isSome_some]
 ·have e0:s=0:=by simpa using hs0
  subst e0
  have b0:(((0:Nat):Int) !=0)=false:=rfl
  rw [if_pos rfl]
  simp only [go_sem,b0,low_net,one_net,len_net,take_net,Nat.le_refl]
  refine callX_of hR ?_
  have eI:decide (0≤(rootS w (groupN g) g w.rgs.length).2)=rootI w g:=rfl
  have eA:(rootS w (groupN g) g w.rgs.length).1=rootA w g:=rfl
  rw [eI,eA]
  cases hI:rootI w g
  ·simp only [go_sem,Bool.false_eq_true,if_false,hopC,Option.isSome_none]
  ·simp only [go_sem,if_true,low_net,one_net,len_net,take_net,Nat.le_refl]
   refine callX_of hT2 ?_
   cases toN w r (rootA w g)<;>simp only [go_sem,hopC,Option.isSome_none,Option.isSome_some]
theorem C_same11 (p q:Option HopN):AC Tryz.prog f_q26 [.agg (hopC p),.agg (hopC p)] (.lit (.bool true)):=by
 refine ac_q26 ?_ (Nat.le_add_left 2 _)
 have b0:∀ x:Int,(x==x)=true:=fun x=>by simp
 have b1:∀ x:Bool,(x==x)=true:=fun x=>by simp
 cases p with
 | none=>simp only [go_sem,c_q26,hopC,b0,b1]
 | some p=>simp only [go_sem,c_q26,hopC,b0,b1]
end Go.Proofs.YtelbgkknneljeaaGreatDoor.VL
end

section
set_option maxHeartbeats 4000000
namespace Go.Proofs.YtelbgkknneljeaaGreatDoor.VL
open Go.RowKit Go.Proofs
def adsW (w:NW):List Nat:=w.scs.map (fun x=>x.s)++(w.mbs.flatMap (fun x=>x.src)++w.rgs.map fun x=>x.root)
def roundAt (w:NW)(r a:Nat):Bool:=(toN w (r:Int) a).isSome&&(chainW w (r:Int) a).isNone
def roundW (w:NW):Bool:=(List.range w.rts.length).any fun r=>(adsW w).any fun a=>roundAt w r a
def RowA (l:List Nat) (v:AV):Prop:=(l=[]∧v=.sl .nil 0 [])∨∃ t,(t=34∨t=48∨t=63)∧v=.sl (.own [t]) 1 (l.map avU)
theorem RowA.mk {t:Nat} (ht:t=34∨t=48∨t=63) (l:List Nat):RowA l (.sl (.own [t]) 1 (l.map avU)):=.inr ⟨t,ht,rfl⟩
def sA (w:NW)(i:Nat):List Nat:=(w.scs.take i).map fun x=>x.s
def mA (w:NW)(i:Nat):List Nat:=w.scs.map (fun x=>x.s)++(w.mbs.take i).flatMap fun x=>x.src
def gA (w:NW)(i:Nat):List Nat:=w.scs.map (fun x=>x.s)++(w.mbs.flatMap (fun x=>x.src)++(w.rgs.take i).map fun x=>x.root)
theorem src_len {w:NW} (hv:vNet w=none):(w.mbs.flatMap fun x=>x.src).length≤4*w.mbs.length:=by
 have hx:∀ x∈w.mbs,x.src.length≤4:=fun x hx=>by
  obtain ⟨i,hi⟩:=List.getElem?_of_mem hx
  exact (memOK hv hi).few
 generalize w.mbs=l at *
 induction l with
 | nil=>simp
 | cons a l ih=>
  have h1:=hx a (by simp)
  have h2:=ih fun x h=>hx x (by simp[h])
  simp only[List.flatMap_cons,List.length_append,List.length_cons]
  omega
theorem flat_take_le {α β:Type} (f:α→List β):∀ (l:List α)(i:Nat),((l.take i).flatMap f).length≤(l.flatMap f).length
 | [],i=>by simp
 | a::l,0=>by simp
 | a::l,i+1=>by
  have:=flat_take_le f l i
  simp only[List.take_succ_cons,List.flatMap_cons,List.length_append]
  omega
theorem ads_lt {w:NW} (h:w.OK):∀ a∈adsW w,a<4294967296:=by
 intro a ha
 unfold adsW at ha
 rcases List.mem_append.1 ha with ha|ha
 ·obtain ⟨x,hx,rfl⟩:=List.mem_map.1 ha
  exact h.scs x hx
 ·rcases List.mem_append.1 ha with ha|ha
  ·obtain ⟨x,hx,hax⟩:=List.mem_flatMap.1 ha
   exact h.mbs x hx a hax
  ·obtain ⟨x,hx,rfl⟩:=List.mem_map.1 ha
   exact h.rgr x hx
theorem any_false_take {α:Type} {p:α→Bool} {l:List α} {i:Nat} {x:α} (h:(l.take i).any p=false)(hx:l[i]?=some x)(hp:p x=false):(l.take (i+1)).any p=false:=by
 rw[any_take_succ p hx,h,hp]
 rfl
theorem take_snoc_map {α β:Type} (f:α→β) {L:List α} {i:Nat} {p:α} (hp:L[i]?=some p):(L.take (i+1)).map f=(L.take i).map f++[f p]:=by
 rw[List.take_add_one,hp,Option.toList_some,List.map_append]
 rfl
theorem C_Round (w:NW) (h:w.OK) (hf:w.Fit) (hv:vNet w=none):AC Tryz.prog f_q20 [.rp (topoV w)] (.lit (.bool (roundW w))):=by
 have z1:w.rts.length≤16:=len_le hv 0 (by decide)
 have z5:w.rgs.length≤8:=len_le hv 4 (by decide)
 have z6:w.scs.length≤8:=len_le hv 5 (by decide)
 have z7:w.mbs.length≤24:=len_le hv 6 (by decide)
 have zs:=src_len hv
 refine ac_q20 ?_ (Nat.le_add_left 1 _)
 simp only [go_sem,c_q20]
 refine callX_of (C_Raw w) ?_
 simp only [go_sem,netV,List.length_map]
 refine aw_loop (fun m E=>∃ (i:Nat) (v:AV),i+m=w.scs.length∧RowA (sA w i) v∧E=mkE [(0,.rp (topoV w)),(3,.rp (netV w)),(4,v),(23,.sl .none 3 (w.scs.map avSource)),(24,.lit (.int .i64 (w.scs.length:Nat))),(25,.lit (.int .i64 (i:Nat)))] []) w.scs.length ?_ ?_
 ·exact ⟨0,_,by omega,.inl ⟨rfl,rfl⟩,rfl⟩
 ·rintro m _ ⟨i,v,him,hra,rfl⟩
  by_cases hil:i<w.scs.length
  ·have f1:((i:Int)<(w.scs.length:Int))=True:=eq_true (by omega)
   have hw:=wrap_succ i (by omega)
   obtain ⟨x,hx⟩:∃ x,w.scs[i]?=some x:=⟨w.scs[i],List.getElem?_eq_getElem hil⟩
   have e1:sA w (i+1)=sA w i++[x.s]:=take_snoc_map (fun x:NSc=>x.s) hx
   have e2:(sA w (i+1)).map avU=(sA w i).map avU++[.lit (.int .u32 (x.s:Nat))]:=by rw [e1,List.map_append];rfl
   have hl:((sA w i).map avU).length+[AV.lit (.int .u32 (x.s:Nat))].length≤4294967296:=by simp [sA];omega
   have fin:=RowA.mk (.inl rfl:(34=34∨(34:Nat)=48∨(34:Nat)=63)) (sA w (i+1))
   rw [e2] at fin
   rcases hra with ⟨e0,rfl⟩ | ⟨t,ht,rfl⟩
   ·rw [e0] at fin
    have ea:∀ s c,avApp 1 4 [] 34 s c (.sl .nil 0 []) (.sl (.own [33]) 1 [.lit (.int .u32 (x.s:Nat))])=_:=fun s c=>avApp_nil (d:=34) (s:=s) (c:=c) 1 4 0 [] [] [.lit (.int .u32 (x.s:Nat))] (.own [33]) (by simp) (by decide)
    simp only [go_sem,f1,decide_true,Int.natCast_nonneg,Int.toNat_natCast,List.getElem?_map,hx,Option.map_some,rowAgg,avSource,avU,ea,hw]
    exact ⟨m - 1,by omega,i+1,_,by omega,fin,rfl⟩
   ·have ea:∀ s c,avApp 1 4 [] 34 s c (.sl (.own [t]) 1 ((sA w i).map avU)) (.sl (.own [33]) 1 [.lit (.int .u32 (x.s:Nat))])=_:=fun s c=>avApp_own (d:=34) (s:=s) (c:=c) 1 4 [] [t] ((sA w i).map avU) [.lit (.int .u32 (x.s:Nat))] (.own [33]) hl (by decide) rfl
    simp only [go_sem,f1,decide_true,Int.natCast_nonneg,Int.toNat_natCast,List.getElem?_map,hx,Option.map_some,rowAgg,avSource,avU,ea,hw]
    exact ⟨m - 1,by omega,i+1,_,by omega,fin,rfl⟩
  ·have f1:((i:Int)<(w.scs.length:Int))=False:=eq_false (by omega)
   have e:sA w i=mA w 0:=by
    simp only [sA,mA]
    rw [List.take_of_length_le (by omega)]
    simp
   rw [e] at hra
   simp only [go_sem,f1,netV,List.length_map,decide_false]
   refine aw_loop (fun m E=>∃ (i:Nat) (v:AV),i+m=w.mbs.length∧RowA (mA w i) v∧E=mkE [(0,.rp (topoV w)),(3,.rp (netV w)),(4,v),(39,.sl .none 4 (w.mbs.map avMb)),(40,.lit (.int .i64 (w.mbs.length:Nat))),(41,.lit (.int .i64 (i:Nat)))] []) w.mbs.length ?_ ?_
   ·exact ⟨0,v,by omega,hra,rfl⟩
   ·rintro m _ ⟨i,v,him,hra,rfl⟩
    by_cases hil:i<w.mbs.length
    ·have f1:((i:Int)<(w.mbs.length:Int))=True:=eq_true (by omega)
     have hw:=wrap_succ i (by omega)
     obtain ⟨x,hx⟩:∃ x,w.mbs[i]?=some x:=⟨w.mbs[i],List.getElem?_eq_getElem hil⟩
     have hxf:=(memOK hv hx).few
     have e1:mA w (i+1)=mA w i++x.src:=by
      simp only [mA]
      rw [List.take_add_one,hx,Option.toList_some,List.flatMap_append,List.append_assoc]
      simp
     have e2:(mA w (i+1)).map avU=(mA w i).map avU++x.src.map avU:=by rw [e1,List.map_append]
     have hml:=flat_take_le (fun x:NM=>x.src) w.mbs i
     have hl:((mA w i).map avU).length+(x.src.map avU).length≤4294967296:=by
      simp only [mA,List.length_map,List.length_append]
      omega
     have fin:=RowA.mk (.inr (.inl rfl):((48:Nat)=34∨(48:Nat)=48∨(48:Nat)=63)) (mA w (i+1))
     rw [e2] at fin
     rcases hra with ⟨e0,rfl⟩ | ⟨t,ht,rfl⟩
     ·rw [e0] at fin
      have ea:∀ s c,avApp 1 4 [] 48 s c (.sl .nil 0 []) (.sl .none 1 (x.src.map avU))=_:=fun s c=>avApp_nil (d:=48) (s:=s) (c:=c) 1 4 0 [] [] (x.src.map avU) .none (by simp;omega) (by decide)
      simp only [go_sem,f1,decide_true,Int.natCast_nonneg,Int.toNat_natCast,List.getElem?_map,hx,Option.map_some,rowAgg,avMb,avU,ea,hw]
      exact ⟨m - 1,by omega,i+1,_,by omega,fin,rfl⟩
     ·have ea:∀ s c,avApp 1 4 [] 48 s c (.sl (.own [t]) 1 ((mA w i).map avU)) (.sl .none 1 (x.src.map avU))=_:=fun s c=>avApp_own (d:=48) (s:=s) (c:=c) 1 4 [] [t] ((mA w i).map avU) (x.src.map avU) .none hl (by decide) rfl
      simp only [go_sem,f1,decide_true,Int.natCast_nonneg,Int.toNat_natCast,List.getElem?_map,hx,Option.map_some,rowAgg,avMb,avU,ea,hw]
      exact ⟨m - 1,by omega,i+1,_,by omega,fin,rfl⟩
    ·have f1:((i:Int)<(w.mbs.length:Int))=False:=eq_false (by omega)
     have e:mA w i=gA w 0:=by
      simp only [mA,gA]
      rw [List.take_of_length_le (by omega)]
      simp
     rw [e] at hra
     simp only [go_sem,f1,netV,List.length_map,decide_false]
     refine aw_loop (fun m E=>∃ (i:Nat) (v:AV),i+m=w.rgs.length∧RowA (gA w i) v∧E=mkE [(0,.rp (topoV w)),(3,.rp (netV w)),(4,v),(53,.sl .none 3 (w.rgs.map avRange)),(54,.lit (.int .i64 (w.rgs.length:Nat))),(55,.lit (.int .i64 (i:Nat)))] []) w.rgs.length ?_ ?_
     ·exact ⟨0,v,by omega,hra,rfl⟩
     ·rintro m _ ⟨i,v,him,hra,rfl⟩
      by_cases hil:i<w.rgs.length
      ·have f1:((i:Int)<(w.rgs.length:Int))=True:=eq_true (by omega)
       have hw:=wrap_succ i (by omega)
       obtain ⟨x,hx⟩:∃ x,w.rgs[i]?=some x:=⟨w.rgs[i],List.getElem?_eq_getElem hil⟩
       have e1:gA w (i+1)=gA w i++[x.root]:=by
        simp only [gA]
        rw [take_snoc_map (fun x:NRg=>x.root) hx]
        simp
       have e2:(gA w (i+1)).map avU=(gA w i).map avU++[.lit (.int .u32 (x.root:Nat))]:=by rw [e1,List.map_append];rfl
       have hl:((gA w i).map avU).length+[AV.lit (.int .u32 (x.root:Nat))].length≤4294967296:=by
        simp only [gA,List.length_map,List.length_append,List.length_take,List.length_singleton]
        omega
       have fin:=RowA.mk (.inr (.inr rfl):((63:Nat)=34∨(63:Nat)=48∨(63:Nat)=63)) (gA w (i+1))
       rw [e2] at fin
       rcases hra with ⟨e0,rfl⟩ | ⟨t,ht,rfl⟩
       ·rw [e0] at fin
        have ea:∀ s c,avApp 1 4 [] 63 s c (.sl .nil 0 []) (.sl (.own [62]) 1 [.lit (.int .u32 (x.root:Nat))])=_:=fun s c=>avApp_nil (d:=63) (s:=s) (c:=c) 1 4 0 [] [] [.lit (.int .u32 (x.root:Nat))] (.own [62]) (by simp) (by decide)
        simp only [go_sem,f1,decide_true,Int.natCast_nonneg,Int.toNat_natCast,List.getElem?_map,hx,Option.map_some,rowAgg,avRange,avU,ea,hw]
        exact ⟨m - 1,by omega,i+1,_,by omega,fin,rfl⟩
       ·have ea:∀ s c,avApp 1 4 [] 63 s c (.sl (.own [t]) 1 ((gA w i).map avU)) (.sl (.own [62]) 1 [.lit (.int .u32 (x.root:Nat))])=_:=fun s c=>avApp_own (d:=63) (s:=s) (c:=c) 1 4 [] [t] ((gA w i).map avU) [.lit (.int .u32 (x.root:Nat))] (.own [62]) hl (by decide) rfl
        simp only [go_sem,f1,decide_true,Int.natCast_nonneg,Int.toNat_natCast,List.getElem?_map,hx,Option.map_some,rowAgg,avRange,avU,ea,hw]
        exact ⟨m - 1,by omega,i+1,_,by omega,fin,rfl⟩
      ·have f1:((i:Int)<(w.rgs.length:Int))=False:=eq_false (by omega)
       have e:gA w i=adsW w:=by
        simp only [gA,adsW]
        rw [List.take_of_length_le (by omega)]
       rw [e] at hra
       have hlt:=ads_lt h
       have hal:(adsW w).length≤1000:=by
        simp only [adsW,List.length_map,List.length_append]
        omega
       have hRW:roundW w=(List.range w.rts.length).any fun r=>(adsW w).any fun a=>roundAt w r a:=rfl
       generalize adsW w=L at *
       simp only [go_sem,f1,netV,List.length_map,decide_false]
       refine aw_loop (fun m E=>∃ r:Nat,r+m=w.rts.length∧((List.range w.rts.length).take r).any (fun r=>L.any fun a=>roundAt w r a)=false∧E=mkE [(0,.rp (topoV w)),(4,v),(69,.lit (.int .i64 (w.rts.length:Nat))),(70,.lit (.int .i64 (r:Nat)))] []) w.rts.length ?_ ?_
       ·exact ⟨0,by omega,by simp,rfl⟩
       ·rintro m _ ⟨r,hrm,hno,rfl⟩
        by_cases hrl:r<w.rts.length
        ·have f1:((r:Int)<(w.rts.length:Int))=True:=eq_true (by omega)
         have hwr:=wrap_succ r (by omega)
         have hrr:(List.range w.rts.length)[r]?=some r:=by simp [hrl]
         rcases hra with ⟨e0,rfl⟩ | ⟨t,ht,rfl⟩
         ·subst e0
          have f0:((0:Int)<((0:Nat):Int))=False:=eq_false (by omega)
          simp only [go_sem,f1,decide_true,List.length_nil]
          refine aw_loop (fun m E=>E=mkE [(0,.rp (topoV w)),(4,.sl .nil 0 []),(11,.lit (.int .i64 (r:Nat))),(69,.lit (.int .i64 (w.rts.length:Nat))),(70,.lit (.int .i64 (r:Nat))),(73,.sl .nil 0 []),(74,.lit (.int .i64 ((0:Nat):Int))),(75,.lit (.int .i64 0))] []) 0 rfl ?_
          rintro m' _ rfl
          simp only [go_sem,f0,decide_false,hwr]
          exact ⟨m - 1,by omega,r+1,by omega,any_false_take hno hrr rfl,rfl⟩
         ·simp only [go_sem,f1,decide_true,List.length_map]
          refine aw_loop (fun m E=>∃ k:Nat,k+m=L.length∧(L.take k).any (fun a=>roundAt w r a)=false∧E=mkE [(0,.rp (topoV w)),(4,.sl (.own [t]) 1 (L.map avU)),(11,.lit (.int .i64 (r:Nat))),(69,.lit (.int .i64 (w.rts.length:Nat))),(70,.lit (.int .i64 (r:Nat))),(73,.sl (.own [t]) 1 (L.map avU)),(74,.lit (.int .i64 (L.length:Nat))),(75,.lit (.int .i64 (k:Nat)))] []) L.length ?_ ?_
          ·exact ⟨0,by omega,by simp,rfl⟩
          ·rintro m' _ ⟨k,hk,hnk,rfl⟩
           have hrI:=fun x=>avRow_some 1 (.own [t]) (AV.lit x) rfl
           by_cases hkl:k<L.length
           ·have q1:((k:Int)<(L.length:Int))=True:=eq_true (by omega)
            have hwk:=wrap_succ k (by omega)
            obtain ⟨a,ha⟩:∃ a,L[k]?=some a:=⟨L[k],List.getElem?_eq_getElem hkl⟩
            have hal':=hlt a (List.mem_of_getElem? ha)
            have hTo:=C_To w h hf hv (r:Int) a hal'
            have hCh:=C_Chain w h hf hv (r:Int) ⟨by omega,by omega⟩ a hal'
            rw [toV_eq] at hTo
            simp only [avU] at hTo hCh
            have hat:roundAt w r a=((toN w (r:Int) a).isSome&&(chainW w (r:Int) a).isNone):=rfl
            simp only [go_sem,q1,decide_true,Int.natCast_nonneg,Int.toNat_natCast,List.getElem?_map,ha,hrI,Option.map_some,avU]
            refine callX_of hTo ?_
            cases hto:(toN w (r:Int) a).isSome
            ·rw [hto] at hat
             simp only [go_sem,hopC_retag,hopC_one,hopC_len,Nat.le_refl,hwk]
             exact ⟨m' - 1,by omega,k+1,by omega,any_false_take hnk ha hat,rfl⟩
            ·rw [hto] at hat
             simp only [go_sem,hopC_retag,hopC_one,hopC_len,Nat.le_refl]
             refine callX_of hCh ?_
             cases hch:chainW w (r:Int) a with
             | none=>
              rw [hch] at hat
              have hRt:roundW w=true:=by
               rw [hRW]
               refine List.any_eq_true.2 ⟨r,List.mem_of_getElem? hrr,List.any_eq_true.2 ⟨a,List.mem_of_getElem? ha,hat⟩⟩
              rw [hRt]
              simp only [go_sem,chainV]
             | some q=>
              rw [hch] at hat
              simp only [go_sem,chainV,hwk]
              exact ⟨m' - 1,by omega,k+1,by omega,any_false_take hnk ha hat,rfl⟩
           ·have q1:((k:Int)<(L.length:Int))=False:=eq_false (by omega)
            have hLk:L.any (fun a=>roundAt w r a)=false:=by
             rw [List.take_of_length_le (by omega)] at hnk
             exact hnk
            simp only [go_sem,q1,decide_false,hwr]
            exact ⟨m - 1,by omega,r+1,by omega,any_false_take hno hrr hLk,rfl⟩
        ·have f1:((r:Int)<(w.rts.length:Int))=False:=eq_false (by omega)
         have hRt:roundW w=false:=by
          rw [hRW,← hno]
          rw [List.take_of_length_le (by simp;omega)]
         rw [hRt]
         simp only [go_sem,f1,decide_false]
theorem line_v20':vNet (lineW 2 0)=none:=by decide+kernel
theorem line_ok20':(lineW 2 0).OK:=by
 constructor<;>decide+kernel
theorem line_t20:toN (lineW 2 0) 0 (addrL 0 1)=some ⟨-1,-1,0,true⟩:=by decide+kernel
theorem line_r20:roundW (lineW 2 0)=false:=by decide+kernel
theorem C_first11:AC Tryz.prog f_q15 [] (.lit (.bool true)):=by
 refine ac_q15 ?_ (Nat.zero_le _)
 have hL:=C_To (lineW 2 0) line_ok20' (vfit line_v20') line_v20' 0 (addrL 0 1) (by decide)
 rw [line_t20] at hL
 have hR:=C_Round (lineW 2 0) line_ok20' (vfit line_v20') line_v20'
 rw [line_r20] at hR
 have k1:((-1:Int)==-1)=true:=rfl
 simp only [go_sem,c_q15]
 refine callX_of (C_Line 2 0 (by decide) (by decide) (by decide)) ?_
 simp only [go_sem,low_net,one_net,len_net,take_net,Nat.le_refl]
 refine callX_of (C_New (lineW 2 0) line_ok20' (vfit line_v20') line_v20') ?_
 simp only [go_sem]
 refine callX_of (C_nAddr 0 1 (by decide) (by decide)) ?_
 simp only [go_sem]
 refine callX_of hL ?_
 simp only [go_sem,toV,hopV,k1]
 refine callX_of hR ?_
 simp only [go_sem]
end Go.Proofs.YtelbgkknneljeaaGreatDoor.VL
end

section
set_option maxHeartbeats 4000000
namespace Go.Proofs.YtelbgkknneljeaaGreatDoor.VL
open Go.RowKit Go.Proofs
theorem C_AmongNil (a:Int):AC Tryz.prog f_q23 [.sl .nil 0 [],iI a] (.lit (.bool false)):=by
 refine ac_q23 ?_ (Nat.le_add_left 2 _)
 have f0:((0:Int)<((0:Nat):Int))=False:=eq_false (by omega)
 simp only [go_sem,c_q23,iI,List.length_nil]
 refine aw_loop (fun m E=>E=mkE [(0,.sl .nil 0 []),(1,iI a),(5,.lit (.int .i64 0))] []) 0 rfl ?_
 rintro m' _ rfl
 simp only [go_sem,f0,decide_false,List.length_nil]
def rcV (q:List Int × Bool):AV:=.tup [.sl .none 1 (q.1.map iI),.lit (.bool q.2)]
def rcO (q:List Int × Bool):AV:=.tup [.sl (.own [18]) 1 (q.1.map iI),.lit (.bool q.2)]
theorem wk_tup {xs ys:List AV} (h:WkL xs ys):Wk (.tup xs) (.tup ys):=fun E v hr=>by
 simp only [Rep] at hr ⊢
 obtain ⟨vs,e,hr⟩:=hr
 exact ⟨vs,e,wkL_rep h hr⟩
def refCW (w:NW) (r:Int) (a:Nat):List Int × Bool:=refC (nextF w a) (w.rts.length+1) [] r
def RowR (l:List Int) (v:AV):Prop:=(l=[]∧v=.sl .nil 0 [])∨v=.sl (.own [18]) 1 (l.map iI)
theorem C_rChain (w:NW) (h:w.OK) (hf:w.Fit) (hv:vNet w=none) (r0:Int) (hr0:0≤r0∧r0<(w.rts.length:Int)) (a:Nat) (ha:a<4294967296):AC Tryz.prog f_q27 [.agg (netV w),.lit (.int .i64 r0),avU a] (rcV (refCW w r0 a)):=by
 have h1:w.rts.length≤16:=len_le hv 0 (by decide)
 refine AC_weak (ac_q27 (r:=rcO (refCW w r0 a)) ?_ (Nat.le_add_left 3 _) rfl) (wk_tup ⟨wk_own _ _ _,Wk.rfl _,trivial⟩)
 have hTo:=fun r hr=>C_rTo w h hf hv r hr a ha
 simp only [avU] at hTo
 generalize hT:refCW w r0 a=T
 simp only [go_sem,c_q27,low_net,one_net,len_net,take_net,Nat.le_refl,avU]
 refine aw_loop (fun n E=>∃ (l:List Int) (v:AV) (r:Int),refC (nextF w a) n l r=T∧RowR l v∧l.Nodup∧(∀ x∈l,0≤x∧x<(w.rts.length:Int))∧w.rts.length<n+l.length∧(0≤r∧r<(w.rts.length:Int))∧E=mkE [(1,.lit (.int .i64 r)),(2,avU a),(3,.lp 3 0),(8,v)] [(3,netV w)]) (w.rts.length+1) ?_ ?_
 ·exact ⟨[],_,r0,hT,.inl ⟨rfl,rfl⟩,List.nodup_nil,by simp,by simp,hr0,rfl⟩
 ·rintro n _ ⟨l,v,r,hT,hra,hnd,hin,hfu,hr,rfl⟩
  have hll:=nodup_len _ l hnd hin
  obtain ⟨n,rfl⟩:∃ k,n=k+1:=⟨n - 1,by omega⟩
  rw [refC] at hT
  have hA:=C_AmongZ l r (by omega)
  have hTr:=hTo r hr
  rw [toV_eq] at hTr
  simp only [iI] at hA
  by_cases hrl:r∈l
  ·rw [if_pos hrl] at hT
   rcases hra with ⟨rfl,_⟩ | rfl
   ·cases hrl
   have hany:(l.any fun y=>y==r)=true:=List.any_eq_true.2 ⟨r,hrl,by simp⟩
   rw [hany] at hA
   rw [← hT]
   simp only [go_sem,avU]
   refine callX_of hA ?_
   simp only [go_sem,rcO]
  ·rw [if_neg hrl] at hT
   have hany:(l.any fun y=>y==r)=false:=by
    rw [List.any_eq_false]
    intro y hy he
    have:y=r:=by simpa using he
    exact hrl (this ▸ hy)
   rw [hany] at hA
   have e2:(l++[r]).map iI=l.map iI++[.lit (.int .i64 r)]:=by rw [List.map_append];rfl
   have hnd2:(l++[r]).Nodup:=by
    rw [List.nodup_append]
    exact ⟨hnd,by simp,fun a ha b hb=>by
     have:b=r:=by simpa using hb
     subst this
     exact fun e=>hrl (e ▸ ha)⟩
   have hin2:∀ y∈l++[r],0≤y∧y<(w.rts.length:Int):=by
    intro y hy
    rcases List.mem_append.1 hy with hy | hy
    ·exact hin y hy
    ·have:y=r:=by simpa using hy
     subst this
     exact hr
   have hlen:(l.map iI).length+[AV.lit (.int .i64 r)].length≤4294967296:=by simp;omega
   have hfu2:w.rts.length<n+(l++[r]).length:=by
    rw [List.length_append,List.length_singleton]
    omega
   have hNil:=C_AmongNil r
   simp only [iI] at hNil
   have en:∀ s c,avApp 1 8 [] 18 s c (.sl .nil 0 []) (.sl (.own [17]) 1 [.lit (.int .i64 r)])=_:=fun s c=>avApp_nil (d:=18) (s:=s) (c:=c) 1 8 0 [] [] [.lit (.int .i64 r)] (.own [17]) (by simp) (by decide)
   have ea:∀ s c,avApp 1 8 [] 18 s c (.sl (.own [18]) 1 (l.map iI)) (.sl (.own [17]) 1 [.lit (.int .i64 r)])=_:=fun s c=>avApp_own (d:=18) (s:=s) (c:=c) 1 8 [] [18] (l.map iI) [.lit (.int .i64 r)] (.own [17]) hlen (by decide) rfl
   have fin:∀ q:Int,(0≤q∧q<(w.rts.length:Int))→refC (nextF w a) n (l++[r]) q=T→∃ k,k<n+1∧∃ (l':List Int) (v:AV) (r':Int),refC (nextF w a) k l' r'=T∧RowR l' v∧l'.Nodup∧(∀ x∈l',0≤x∧x<(w.rts.length:Int))∧w.rts.length<k+l'.length∧(0≤r'∧r'<(w.rts.length:Int))∧mkE [(1,.lit (.int .i64 q)),(2,avU a),(3,.lp 3 0),(8,.sl (.own [18]) 1 (l.map iI++[.lit (.int .i64 r)]))] [(3,netV w)]=mkE [(1,.lit (.int .i64 r')),(2,avU a),(3,.lp 3 0),(8,v)] [(3,netV w)]:=fun q hq hTq=>
    ⟨n,by omega,l++[r],_,q,hTq,.inr rfl,hnd2,hin2,hfu2,hq,by rw [e2]⟩
   have hnx:nextF w a r=match toN w r a with
    | none=>none
    | some h=>if 0≤h.up then (match w.pts[h.up.toNat]? with | some x=>some x.rt | none=>none) else none:=rfl
   simp only [avU] at fin
   cases ht:toN w r a with
   | none=>
    rw [ht] at hnx hTr
    simp only at hnx
    rw [hnx] at hT
    simp only at hT
    rw [← hT]
    rcases hra with ⟨rfl,rfl⟩ | rfl
    ·simp only [go_sem,avU]
     refine callX_of hNil ?_
     simp only [go_sem,en,low_net,one_net,len_net,take_net,Nat.le_refl]
     refine callX_of hTr ?_
     simp only [go_sem,hopC_retag,hopC_one,hopC_len,hopC,Nat.le_refl,Option.isSome_none,rcO,e2,List.map_nil,List.nil_append,List.map_cons,iI]
    ·simp only [go_sem,avU]
     refine callX_of hA ?_
     simp only [go_sem,ea,strip_net,low_net,one_net,len_net,take_net,Nat.le_refl]
     refine callX_of hTr ?_
     simp only [go_sem,hopC_retag,hopC_one,hopC_len,hopC,Nat.le_refl,Option.isSome_none,rcO,e2]
   | some hp=>
    rw [ht] at hnx hTr
    simp only at hnx
    by_cases hu:hp.up<0
    ·have n1:(hp.up<0)=True:=eq_true hu
     rw [if_neg (by omega)] at hnx
     rw [hnx] at hT
     simp only at hT
     rw [← hT]
     rcases hra with ⟨rfl,rfl⟩ | rfl
     ·simp only [go_sem,avU]
      refine callX_of hNil ?_
      simp only [go_sem,en,low_net,one_net,len_net,take_net,Nat.le_refl]
      refine callX_of hTr ?_
      simp only [go_sem,hopC_retag,hopC_one,hopC_len,hopC,Nat.le_refl,Option.isSome_some,n1,decide_true,rcO,e2,List.map_nil,List.nil_append,List.map_cons,iI]
     ·simp only [go_sem,avU]
      refine callX_of hA ?_
      simp only [go_sem,ea,strip_net,low_net,one_net,len_net,take_net,Nat.le_refl]
      refine callX_of hTr ?_
      simp only [go_sem,hopC_retag,hopC_one,hopC_len,hopC,Nat.le_refl,Option.isSome_some,n1,decide_true,rcO,e2]
    ·have n1:(hp.up<0)=False:=eq_false hu
     have hq:∃ q:Nat,hp.up=(q:Int)∧q<w.pts.length:=by
      rcases toN_up hv ht with ⟨_,e,_⟩ | ⟨_,_,_,e | ⟨q,e,_,hl⟩,_⟩
      ·omega
      ·omega
      ·exact ⟨q,e,hl⟩
     obtain ⟨q,hq,hql⟩:=hq
     obtain ⟨x,hx⟩:∃ x,w.pts[q]?=some x:=⟨w.pts[q],List.getElem?_eq_getElem hql⟩
     rw [if_pos (by omega),hq,Int.toNat_natCast,hx] at hnx
     simp only at hnx
     rw [hnx] at hT
     simp only at hT
     have hxr:=nextF_lt hv a r x.rt hnx
     have fin:=fin x.rt hxr hT
     have n2:((q:Int)<0)=False:=eq_false (by omega)
     rcases hra with ⟨rfl,rfl⟩ | rfl
     ·simp only [go_sem,avU]
      refine callX_of hNil ?_
      simp only [go_sem,en,low_net,one_net,len_net,take_net,Nat.le_refl]
      refine callX_of hTr ?_
      simp only [go_sem,hopC_retag,hopC_one,hopC_len,hopC,Nat.le_refl,Option.isSome_some,hq,n2,decide_false,netV,Int.natCast_nonneg,Int.toNat_natCast,List.getElem?_map,hx,Option.map_some,rowAgg,avPort]
      exact fin
     ·simp only [go_sem,avU]
      refine callX_of hA ?_
      simp only [go_sem,ea,strip_net,low_net,one_net,len_net,take_net,Nat.le_refl]
      refine callX_of hTr ?_
      simp only [go_sem,hopC_retag,hopC_one,hopC_len,hopC,Nat.le_refl,Option.isSome_some,hq,n2,decide_false,netV,Int.natCast_nonneg,Int.toNat_natCast,List.getElem?_map,hx,Option.map_some,rowAgg,avPort]
      exact fin
def rRoundW (w:NW):Bool:=(adsW w).any fun a=>(List.range w.rts.length).any fun r:Nat=>(refCW w (r:Int) a).2
theorem refCW_again (w:NW) (r:Nat) (a:Nat):(refCW w (r:Int) a).2=roundAt w r a:=by
 have h:=refC_run (nextF w a) (w.rts.length+1) [] (r:Int) (by simp)
 unfold refCW roundAt chainW
 rw [List.nil_append] at h
 cases ht:toN w (r:Int) a with
 | none=>
  rw [run_none ht] at h
  simp only at h
  rw [h]
  rfl
 | some hp=>
  simp only [Option.isSome_some,Bool.true_and]
  cases hR:runF (nextF w a) (w.rts.length+1) [(r:Int)] (r:Int) with
  | none=>
   rw [hR] at h
   simp only at h
   rw [h]
   rfl
  | some m=>
   rw [hR] at h
   simp only at h
   rw [h]
   rfl
theorem any_swap {α β:Type} (p:α→β→Bool)(l:List α)(m:List β):(l.any fun a=>m.any fun b=>p a b)=m.any fun b=>l.any fun a=>p a b:=by
 rw[Bool.eq_iff_iff]
 simp only[List.any_eq_true]
 exact ⟨fun ⟨a,ha,b,hb,h⟩=> ⟨b,hb,a,ha,h⟩,fun ⟨b,hb,a,ha,h⟩=> ⟨a,ha,b,hb,h⟩⟩
theorem rRound_eq (w:NW):rRoundW w=roundW w:=by
 unfold rRoundW roundW
 rw[any_swap]
 simp only[refCW_again]
def RowB (l:List Nat) (v:AV):Prop:=(l=[]∧v=.sl .nil 0 [])∨∃ t,(t=27∨t=42∨t=58)∧v=.sl (.own [t]) 1 (l.map avU)
theorem RowB.mk {t:Nat} (ht:t=27∨t=42∨t=58) (l:List Nat):RowB l (.sl (.own [t]) 1 (l.map avU)):=.inr ⟨t,ht,rfl⟩
theorem C_rRound (w:NW) (h:w.OK) (hf:w.Fit) (hv:vNet w=none):AC Tryz.prog f_q30 [.agg (netV w)] (.lit (.bool (rRoundW w))):=by
 have z1:w.rts.length≤16:=len_le hv 0 (by decide)
 have z5:w.rgs.length≤8:=len_le hv 4 (by decide)
 have z6:w.scs.length≤8:=len_le hv 5 (by decide)
 have z7:w.mbs.length≤24:=len_le hv 6 (by decide)
 have zs:=src_len hv
 refine ac_q30 ?_ (Nat.le_add_left 1 _)
 simp only [go_sem,c_q30,low_net,one_net,len_net,take_net,Nat.le_refl]
 refine aw_loop (fun m E=>∃ (i:Nat) (v:AV),i+m=w.scs.length∧RowB (sA w i) v∧E=mkE [(1,.lp 1 0),(3,v),(4,.lit (.int .i64 (i:Nat)))] [(1,netV w)]) w.scs.length ?_ ?_
 ·exact ⟨0,_,by omega,.inl ⟨rfl,rfl⟩,rfl⟩
 ·rintro m _ ⟨i,v,him,hra,rfl⟩
  by_cases hil:i<w.scs.length
  ·have f1:((i:Int)<(w.scs.length:Int))=True:=eq_true (by omega)
   have hw:=wrap_succ i (by omega)
   obtain ⟨x,hx⟩:∃ x,w.scs[i]?=some x:=⟨w.scs[i],List.getElem?_eq_getElem hil⟩
   have e1:sA w (i+1)=sA w i++[x.s]:=take_snoc_map (fun x:NSc=>x.s) hx
   have e2:(sA w (i+1)).map avU=(sA w i).map avU++[.lit (.int .u32 (x.s:Nat))]:=by rw [e1,List.map_append];rfl
   have hl:((sA w i).map avU).length+[AV.lit (.int .u32 (x.s:Nat))].length≤4294967296:=by simp [sA];omega
   have fin:=RowB.mk (.inl rfl:(27=27∨(27:Nat)=42∨(27:Nat)=58)) (sA w (i+1))
   rw [e2] at fin
   rcases hra with ⟨e0,rfl⟩ | ⟨t,ht,rfl⟩
   ·rw [e0] at fin
    have ea:∀ s c,avApp 1 4 [] 27 s c (.sl .nil 0 []) (.sl (.own [26]) 1 [.lit (.int .u32 (x.s:Nat))])=_:=fun s c=>avApp_nil (d:=27) (s:=s) (c:=c) 1 4 0 [] [] [.lit (.int .u32 (x.s:Nat))] (.own [26]) (by simp) (by decide)
    simp only [go_sem,netV,List.length_map,f1,decide_true,Int.natCast_nonneg,Int.toNat_natCast,List.getElem?_map,hx,Option.map_some,rowAgg,avSource,avU,ea,hw]
    exact ⟨m - 1,by omega,i+1,_,by omega,fin,rfl⟩
   ·have ea:∀ s c,avApp 1 4 [] 27 s c (.sl (.own [t]) 1 ((sA w i).map avU)) (.sl (.own [26]) 1 [.lit (.int .u32 (x.s:Nat))])=_:=fun s c=>avApp_own (d:=27) (s:=s) (c:=c) 1 4 [] [t] ((sA w i).map avU) [.lit (.int .u32 (x.s:Nat))] (.own [26]) hl (by decide) rfl
    simp only [go_sem,netV,List.length_map,f1,decide_true,Int.natCast_nonneg,Int.toNat_natCast,List.getElem?_map,hx,Option.map_some,rowAgg,avSource,avU,ea,hw]
    exact ⟨m - 1,by omega,i+1,_,by omega,fin,rfl⟩
  ·have f1:((i:Int)<(w.scs.length:Int))=False:=eq_false (by omega)
   have e:sA w i=mA w 0:=by
    simp only [sA,mA]
    rw [List.take_of_length_le (by omega)]
    simp
   rw [e] at hra
   simp only [go_sem,f1,netV,List.length_map,decide_false]
   refine aw_loop (fun m E=>∃ (i:Nat) (v:AV),i+m=w.mbs.length∧RowB (mA w i) v∧E=mkE [(1,.lp 1 0),(3,v),(5,.lit (.int .i64 (i:Nat)))] [(1,netV w)]) w.mbs.length ?_ ?_
   ·exact ⟨0,v,by omega,hra,rfl⟩
   ·rintro m _ ⟨i,v,him,hra,rfl⟩
    by_cases hil:i<w.mbs.length
    ·have f1:((i:Int)<(w.mbs.length:Int))=True:=eq_true (by omega)
     have hw:=wrap_succ i (by omega)
     obtain ⟨x,hx⟩:∃ x,w.mbs[i]?=some x:=⟨w.mbs[i],List.getElem?_eq_getElem hil⟩
     have hxf:=(memOK hv hx).few
     have e1:mA w (i+1)=mA w i++x.src:=by
      simp only [mA]
      rw [List.take_add_one,hx,Option.toList_some,List.flatMap_append,List.append_assoc]
      simp
     have e2:(mA w (i+1)).map avU=(mA w i).map avU++x.src.map avU:=by rw [e1,List.map_append]
     have hml:=flat_take_le (fun x:NM=>x.src) w.mbs i
     have hl:((mA w i).map avU).length+(x.src.map avU).length≤4294967296:=by
      simp only [mA,List.length_map,List.length_append]
      omega
     have fin:=RowB.mk (.inr (.inl rfl):((42:Nat)=27∨(42:Nat)=42∨(42:Nat)=58)) (mA w (i+1))
     rw [e2] at fin
     rcases hra with ⟨e0,rfl⟩ | ⟨t,ht,rfl⟩
     ·rw [e0] at fin
      have ea:∀ s c,avApp 1 4 [] 42 s c (.sl .nil 0 []) (.sl .none 1 (x.src.map avU))=_:=fun s c=>avApp_nil (d:=42) (s:=s) (c:=c) 1 4 0 [] [] (x.src.map avU) .none (by simp;omega) (by decide)
      simp only [go_sem,netV,List.length_map,f1,decide_true,Int.natCast_nonneg,Int.toNat_natCast,List.getElem?_map,hx,Option.map_some,rowAgg,avMb,avU,ea,hw]
      exact ⟨m - 1,by omega,i+1,_,by omega,fin,rfl⟩
     ·have ea:∀ s c,avApp 1 4 [] 42 s c (.sl (.own [t]) 1 ((mA w i).map avU)) (.sl .none 1 (x.src.map avU))=_:=fun s c=>avApp_own (d:=42) (s:=s) (c:=c) 1 4 [] [t] ((mA w i).map avU) (x.src.map avU) .none hl (by decide) rfl
      simp only [go_sem,netV,List.length_map,f1,decide_true,Int.natCast_nonneg,Int.toNat_natCast,List.getElem?_map,hx,Option.map_some,rowAgg,avMb,avU,ea,hw]
      exact ⟨m - 1,by omega,i+1,_,by omega,fin,rfl⟩
    ·have f1:((i:Int)<(w.mbs.length:Int))=False:=eq_false (by omega)
     have e:mA w i=gA w 0:=by
      simp only [mA,gA]
      rw [List.take_of_length_le (by omega)]
      simp
     rw [e] at hra
     simp only [go_sem,f1,netV,List.length_map,decide_false]
     refine aw_loop (fun m E=>∃ (i:Nat) (v:AV),i+m=w.rgs.length∧RowB (gA w i) v∧E=mkE [(1,.lp 1 0),(3,v),(6,.lit (.int .i64 (i:Nat)))] [(1,netV w)]) w.rgs.length ?_ ?_
     ·exact ⟨0,v,by omega,hra,rfl⟩
     ·rintro m _ ⟨i,v,him,hra,rfl⟩
      by_cases hil:i<w.rgs.length
      ·have f1:((i:Int)<(w.rgs.length:Int))=True:=eq_true (by omega)
       have hw:=wrap_succ i (by omega)
       obtain ⟨x,hx⟩:∃ x,w.rgs[i]?=some x:=⟨w.rgs[i],List.getElem?_eq_getElem hil⟩
       have e1:gA w (i+1)=gA w i++[x.root]:=by
        simp only [gA]
        rw [take_snoc_map (fun x:NRg=>x.root) hx]
        simp
       have e2:(gA w (i+1)).map avU=(gA w i).map avU++[.lit (.int .u32 (x.root:Nat))]:=by rw [e1,List.map_append];rfl
       have hl:((gA w i).map avU).length+[AV.lit (.int .u32 (x.root:Nat))].length≤4294967296:=by
        simp only [gA,List.length_map,List.length_append,List.length_take,List.length_singleton]
        omega
       have fin:=RowB.mk (.inr (.inr rfl):((58:Nat)=27∨(58:Nat)=42∨(58:Nat)=58)) (gA w (i+1))
       rw [e2] at fin
       rcases hra with ⟨e0,rfl⟩ | ⟨t,ht,rfl⟩
       ·rw [e0] at fin
        have ea:∀ s c,avApp 1 4 [] 58 s c (.sl .nil 0 []) (.sl (.own [57]) 1 [.lit (.int .u32 (x.root:Nat))])=_:=fun s c=>avApp_nil (d:=58) (s:=s) (c:=c) 1 4 0 [] [] [.lit (.int .u32 (x.root:Nat))] (.own [57]) (by simp) (by decide)
        simp only [go_sem,netV,List.length_map,f1,decide_true,Int.natCast_nonneg,Int.toNat_natCast,List.getElem?_map,hx,Option.map_some,rowAgg,avRange,avU,ea,hw]
        exact ⟨m - 1,by omega,i+1,_,by omega,fin,rfl⟩
       ·have ea:∀ s c,avApp 1 4 [] 58 s c (.sl (.own [t]) 1 ((gA w i).map avU)) (.sl (.own [57]) 1 [.lit (.int .u32 (x.root:Nat))])=_:=fun s c=>avApp_own (d:=58) (s:=s) (c:=c) 1 4 [] [t] ((gA w i).map avU) [.lit (.int .u32 (x.root:Nat))] (.own [57]) hl (by decide) rfl
        simp only [go_sem,netV,List.length_map,f1,decide_true,Int.natCast_nonneg,Int.toNat_natCast,List.getElem?_map,hx,Option.map_some,rowAgg,avRange,avU,ea,hw]
        exact ⟨m - 1,by omega,i+1,_,by omega,fin,rfl⟩
      ·have f1:((i:Int)<(w.rgs.length:Int))=False:=eq_false (by omega)
       have e:gA w i=adsW w:=by
        simp only [gA,adsW]
        rw [List.take_of_length_le (by omega)]
       rw [e] at hra
       have hlt:=ads_lt h
       have hal:(adsW w).length≤1000:=by
        simp only [adsW,List.length_map,List.length_append]
        omega
       have hRW:rRoundW w=(adsW w).any fun a=>(List.range w.rts.length).any fun r:Nat=>(refCW w (r:Int) a).2:=rfl
       generalize adsW w=L at *
       have c0:((0:Nat):Int)=0:=rfl
       simp only [go_sem,f1,netV,List.length_map,decide_false]
       rcases hra with ⟨e0,rfl⟩ | ⟨t,ht,rfl⟩
       ·subst e0
        have f0:((0:Int)<((0:Nat):Int))=False:=eq_false (by omega)
        refine aw_loop (fun m E=>E=mkE [(1,.lp 1 0),(3,.sl .nil 0 []),(7,.lit (.int .i64 0))] [(1,netV w)]) 0 rfl ?_
        rintro m' _ rfl
        rw [hRW]
        simp only [go_sem,f0,decide_false,List.length_nil,List.any_nil]
       ·refine aw_loop (fun m E=>∃ k:Nat,k+m=L.length∧(L.take k).any (fun a=>(List.range w.rts.length).any fun r:Nat=>(refCW w (r:Int) a).2)=false∧E=mkE [(1,.lp 1 0),(3,.sl (.own [t]) 1 (L.map avU)),(7,.lit (.int .i64 (k:Nat)))] [(1,netV w)]) L.length ?_ ?_
        ·exact ⟨0,by omega,by simp,rfl⟩
        ·rintro m _ ⟨k,hk,hnk,rfl⟩
         have hrI:=fun x=>avRow_some 1 (.own [t]) (AV.lit x) rfl
         by_cases hkl:k<L.length
         ·have q1:((k:Int)<(L.length:Int))=True:=eq_true (by omega)
          have hwk:=wrap_succ k (by omega)
          obtain ⟨a,ha⟩:∃ a,L[k]?=some a:=⟨L[k],List.getElem?_eq_getElem hkl⟩
          have hal':=hlt a (List.mem_of_getElem? ha)
          simp only [go_sem,q1,decide_true,List.length_map]
          refine aw_loop (fun m E=>∃ r:Nat,r+m=w.rts.length∧((List.range w.rts.length).take r).any (fun r:Nat=>(refCW w (r:Int) a).2)=false∧E=mkE [(1,.lp 1 0),(3,.sl (.own [t]) 1 (L.map avU)),(7,.lit (.int .i64 (k:Nat))),(8,.lit (.int .i64 (r:Nat)))] [(1,netV w)]) w.rts.length ?_ ?_
          ·exact ⟨0,by omega,by simp,rfl⟩
          ·rintro m' _ ⟨r,hrm,hno,rfl⟩
           by_cases hrl:r<w.rts.length
           ·have f1:((r:Int)<(w.rts.length:Int))=True:=eq_true (by omega)
            have hwr:=wrap_succ r (by omega)
            have hrr:(List.range w.rts.length)[r]?=some r:=by simp [hrl]
            have hCh:=C_rChain w h hf hv (r:Int) ⟨by omega,by omega⟩ a hal'
            simp only [avU,rcV] at hCh
            simp only [go_sem,f1,netV,List.length_map,decide_true,Int.natCast_nonneg,Int.toNat_natCast,List.getElem?_map,ha,hrI,Option.map_some,avU,low_net,one_net,len_net,take_net,Nat.le_refl]
            refine callX_of hCh ?_
            cases hag:(refCW w (r:Int) a).2
            ·simp only [go_sem,hwr]
             exact ⟨m' - 1,by omega,r+1,by omega,any_false_take hno hrr hag,rfl⟩
            ·have hRt:rRoundW w=true:=by
              rw [hRW]
              exact List.any_eq_true.2 ⟨a,List.mem_of_getElem? ha,List.any_eq_true.2 ⟨r,List.mem_of_getElem? hrr,hag⟩⟩
             rw [hRt]
             simp only [go_sem]
           ·have f1:((r:Int)<(w.rts.length:Int))=False:=eq_false (by omega)
            have hLk:((List.range w.rts.length).any fun r:Nat=>(refCW w (r:Int) a).2)=false:=by
             rw [List.take_of_length_le (by simp;omega)] at hno
             exact hno
            simp only [go_sem,f1,netV,List.length_map,decide_false,hwk]
            exact ⟨m - 1,by omega,k+1,by omega,any_false_take hnk ha hLk,rfl⟩
         ·have q1:((k:Int)<(L.length:Int))=False:=eq_false (by omega)
          have hRt:rRoundW w=false:=by
           rw [hRW,← hnk,List.take_of_length_le (by omega)]
          rw [hRt]
          simp only [go_sem,q1,List.length_map,decide_false]
end Go.Proofs.YtelbgkknneljeaaGreatDoor.VL
end

section
set_option maxHeartbeats 4000000
namespace Go.Proofs.YtelbgkknneljeaaGreatDoor.VL
open Go.RowKit Go.Proofs
theorem runF_len (f:Int→Option Int):∀ (n:Nat)(l:List Int)(r:Int)(m:List Int),runF f n l r=some m→m.length≤l.length+n
 | 0,l,r,m,h=>by cases h
 | n+1,l,r,m,h=>by
  simp only[runF] at h
  split at h
  ·injection h with h
   rw[←h]
   omega
  ·split at h
   ·cases h
   ·have:=runF_len f n _ _ m h
    rw[List.length_append,List.length_singleton] at this
    omega
theorem chain_len {w:NW} {r:Int} {a:Nat} {m:List Int} (h:chainW w r a=some m):m.length≤w.rts.length+2:=by
 unfold chainW at h
 split at h
 ·cases h
 ·have:=runF_len _ _ _ _ _ h
  rw[List.length_singleton] at this
  omega
end Go.Proofs.YtelbgkknneljeaaGreatDoor.VL
end

section
set_option maxHeartbeats 4000000
namespace Go.Proofs.YtelbgkknneljeaaGreatDoor.VL
open Go.RowKit Go.Proofs
theorem refCW_some {w:NW} {r:Int} {a:Nat} {m:List Int} (hc:chainW w r a=some m):refCW w r a=(m,false):=by
 have h:=refC_run (nextF w a) (w.rts.length+1) [] r (by simp)
 rw [List.nil_append] at h
 unfold chainW at hc
 split at hc
 ·cases hc
 ·rw [hc] at h
  exact h
theorem refCW_none {w:NW} {r:Int} {a:Nat} {hp:HopN} (ht:toN w r a=some hp) (hc:chainW w r a=none):(refCW w r a).2=true:=by
 have h:=refC_run (nextF w a) (w.rts.length+1) [] r (by simp)
 rw [List.nil_append] at h
 unfold chainW at hc
 rw [ht] at hc
 simp only at hc
 rw [hc] at h
 exact h
theorem C_RpfSays (w:NW) (h:w.OK) (r:Int) (l:List Nat) (hla:∀ a∈l,a<4294967296) (s g:Nat) (hs:s<4294967296) (hg:g<4294967296):AC Tryz.prog f_q4 [.agg (netV w),.lit (.int .i64 r),.sl .none 1 (l.map avU),.agg [avU s,avU g]] (.lit (.bool true)):=by
 refine ac_q4 ?_ (Nat.le_add_left 4 _)
 simp only [go_sem,c_q4,low_net,one_net,len_net,take_net,Nat.le_refl,avU]
 refine callX_of C_first11 ?_
 simp only [go_sem,low_net,one_net,len_net,take_net,Nat.le_refl]
 refine callX_of (C_Light w h 8) ?_
 cases hL:lightN w 8
 ·simp only [go_sem]
 have lo:=lightN_iff.1 hL
 have hv:=lo.v
 have hf:=vfit hv
 have z1:w.rts.length≤16:=len_le hv 0 (by decide)
 by_cases h20:12<l.length
 ·have f1:((12:Int)<(l.length:Int))=True:=eq_true (by omega)
  have f2:((l.length:Int) > 12)=True:=eq_true (by omega)
  simp only [go_sem,List.length_map,f1,f2,decide_true]
 have f1:((12:Int)<(l.length:Int))=False:=eq_false (by omega)
 have f2:((l.length:Int) > 12)=False:=eq_false (by omega)
 by_cases h0:r<0
 ·have g1:(r<0)=True:=eq_true h0
  simp only [go_sem,List.length_map,f1,f2,g1,decide_true,decide_false]
 have g1:(r<0)=False:=eq_false h0
 by_cases h1:(w.rts.length:Int)≤r
 ·have g2:((w.rts.length:Int)≤r)=True:=eq_true h1
  simp only [go_sem,netV,List.length_map,f1,f2,g1,g2,decide_true,decide_false]
 have g2:((w.rts.length:Int)≤r)=False:=eq_false h1
 have hr:0≤r∧r<(w.rts.length:Int):=by omega
 have hN:=C_New w h hf hv
 simp only [netV] at hN
 simp only [go_sem,netV,List.length_map,f1,f2,g1,g2,decide_false]
 refine callX_of hN ?_
 simp only [go_sem]
 have kff:(false==false)=true:=rfl
 have ktt:(true==true)=true:=rfl
 have nff:(false !=false)=false:=rfl
 have ntt:(true !=true)=false:=rfl
 refine aw_loop (fun m E=>∃ i:Nat,i+m=l.length∧E=mkE [(1,.lit (.int .i64 r)),(2,.sl .none 1 (l.map avU)),(4,.lp 4 0),(7,.lp 7 0),(10,.rp (topoV w)),(12,.lit (.int .i64 (i:Nat)))] [(4,netV w),(7,[avU s,avU g])]) l.length ?_ ?_
 ·exact ⟨0,by omega,rfl⟩
 ·rintro m _ ⟨i,him,rfl⟩
  have hrI:=fun x=>avRow_some 1 .none (AV.lit x) rfl
  by_cases hil:i<l.length
  ·have q1:((i:Int)<(l.length:Int))=True:=eq_true (by omega)
   have hw:=wrap_succ i (by omega)
   obtain ⟨a,ha⟩:∃ a,l[i]?=some a:=⟨l[i],List.getElem?_eq_getElem hil⟩
   have hal:=hla a (List.mem_of_getElem? ha)
   have hTo:=C_To w h hf hv r a hal
   have hrT:=C_rTo w h hf hv r hr a hal
   have hCh:=C_Chain w h hf hv r hr a hal
   have hrC:=C_rChain w h hf hv r hr a hal
   have hkn:=fun hp (e:toN w r a=some hp) (hc:chainW w r a=none)=>refCW_none e hc
   have hks:=fun m (hc:chainW w r a=some m)=>refCW_some hc
   have hkl:=fun m (hc:chainW w r a=some m)=>chain_len hc
   have hk0:toN w r a=none→chainW w r a=none:=fun e=>by
    unfold chainW
    rw [e]
   rw [toV_eq] at hTo hrT
   simp only [avU] at hTo hrT hCh hrC
   generalize toN w r a=T at *
   generalize chainW w r a=C at *
   generalize refCW w r a=R at *
   obtain ⟨n,b⟩:=R
   simp only [go_sem,q1,List.length_map,decide_true,Int.natCast_nonneg,Int.toNat_natCast,List.getElem?_map,ha,hrI,Option.map_some,avU]
   refine callX_of hTo ?_
   cases T with
   | none=>
    obtain rfl:=hk0 rfl
    have hSm:=C_same11 none none
    simp only [hopC,Option.isSome_none,Option.isSome_some] at hSm hTo hrT
    simp only [chainV] at hCh
    simp only [rcV] at hrC
    simp only [go_sem,hopC,Option.isSome_none,low_net,one_net,len_net,take_net,Nat.le_refl,List.length_map,Int.natCast_nonneg,Int.toNat_natCast,List.getElem?_map,ha,hrI,Option.map_some,avU]
    refine callX_of hrT ?_
    simp only [go_sem,nff,kff,Bool.not_true,Bool.not_false]
    refine callX_of hSm ?_
    simp only [go_sem,List.length_map,Int.natCast_nonneg,Int.toNat_natCast,List.getElem?_map,ha,hrI,Option.map_some,avU]
    refine callX_of hCh ?_
    simp only [go_sem,low_net,one_net,len_net,take_net,Nat.le_refl,List.length_map,Int.natCast_nonneg,Int.toNat_natCast,List.getElem?_map,ha,hrI,Option.map_some,avU]
    refine callX_of hrC ?_
    have k0:(((0:Nat):Int) !=0)=false:=rfl
    simp only [go_sem,nff,kff,ktt,Bool.not_true,Bool.not_false,List.length_nil,k0,hw]
    exact ⟨m - 1,by omega,i+1,by omega,rfl⟩
   | some hp=>
    have hSm:=C_same11 (some hp) none
    simp only [hopC,Option.isSome_none,Option.isSome_some] at hSm hTo hrT
    simp only [go_sem,hopC,Option.isSome_some,low_net,one_net,len_net,take_net,Nat.le_refl,List.length_map,Int.natCast_nonneg,Int.toNat_natCast,List.getElem?_map,ha,hrI,Option.map_some,avU]
    refine callX_of hrT ?_
    simp only [go_sem,ntt,ktt,Bool.not_true,Bool.not_false]
    refine callX_of hSm ?_
    simp only [go_sem,List.length_map,Int.natCast_nonneg,Int.toNat_natCast,List.getElem?_map,ha,hrI,Option.map_some,avU]
    refine callX_of hCh ?_
    cases C with
    | none=>
     have hb:=hkn hp rfl rfl
     simp only at hb
     subst hb
     simp only [rcV] at hrC
     simp only [go_sem,chainV,low_net,one_net,len_net,take_net,Nat.le_refl,List.length_map,Int.natCast_nonneg,Int.toNat_natCast,List.getElem?_map,ha,hrI,Option.map_some,avU]
     refine callX_of hrC ?_
     have k0:(((0:Nat):Int) !=0)=false:=rfl
     simp only [go_sem,nff,kff,ktt,Bool.not_true,Bool.not_false,List.length_nil,k0,hw]
     exact ⟨m - 1,by omega,i+1,by omega,rfl⟩
    | some m'=>
     have hb:=hks m' rfl
     have hml:=hkl m' rfl
     obtain ⟨rfl,rfl⟩:=Prod.mk.inj hb
     have hS:=C_SameInts n n (by omega)
     simp only [decide_true] at hS
     simp only [rcV] at hrC
     simp only [go_sem,chainV,low_net,one_net,len_net,take_net,Nat.le_refl,List.length_map,Int.natCast_nonneg,Int.toNat_natCast,List.getElem?_map,ha,hrI,Option.map_some,avU]
     refine callX_of hrC ?_
     simp only [go_sem,nff,kff,ntt,ktt,Bool.not_true,Bool.not_false]
     refine callX_of hS ?_
     simp only [go_sem,hw]
     exact ⟨m - 1,by omega,i+1,by omega,rfl⟩
  ·have q1:((i:Int)<(l.length:Int))=False:=eq_false (by omega)
   have hK:=C_Key w h hf hv r s g hs hg
   have hrK:=C_rToKey w h hf hv r hr s g hs hg
   have hRo:=C_Round w h hf hv
   have hrR:=C_rRound w h hf hv
   rw [rRound_eq] at hrR
   rw [toV_eq] at hK hrK
   simp only [avU] at hK hrK
   generalize keyN w r s g=T at *
   generalize roundW w=R at *
   simp only [go_sem,q1,List.length_map,decide_false,avU]
   refine callX_of hK ?_
   have hSm:=C_same11 T none
   have bRR:∀ b:Bool,(b==b)=true:=fun b=>by cases b<;>rfl
   cases T with
   | none=>
    simp only [hopC,Option.isSome_none,Option.isSome_some] at hSm hK hrK
    simp only [go_sem,hopC,Option.isSome_none,low_net,one_net,len_net,take_net,Nat.le_refl]
    refine callX_of hrK ?_
    simp only [go_sem,kff,ktt]
    refine callX_of hSm ?_
    simp only [go_sem]
    refine callX_of hRo ?_
    simp only [go_sem,low_net,one_net,len_net,take_net,Nat.le_refl]
    refine callX_of hrR ?_
    simp only [go_sem,bRR]
   | some hp=>
    simp only [hopC,Option.isSome_none,Option.isSome_some] at hSm hK hrK
    simp only [go_sem,hopC,Option.isSome_some,low_net,one_net,len_net,take_net,Nat.le_refl]
    refine callX_of hrK ?_
    simp only [go_sem,kff,ktt]
    refine callX_of hSm ?_
    simp only [go_sem]
    refine callX_of hRo ?_
    simp only [go_sem,low_net,one_net,len_net,take_net,Nat.le_refl]
    refine callX_of hrR ?_
    simp only [go_sem,bRR]
end Go.Proofs.YtelbgkknneljeaaGreatDoor.VL
end

section
namespace Go.Proofs.YtelbgkknneljeaaGreatDoor.VL
open Go.RowKit Go.Proofs
theorem fit_key {cs:List AV} (h:FitL [.int .u32,.int .u32] cs):∃ s g:Nat,s<4294967296∧g<4294967296∧mkRow true cs=.agg [avU s,avU g]:=by
 simp only [FitL,Fit] at h
 obtain ⟨_,_,rfl,⟨a,rfl,ha⟩,_,_,rfl,⟨v,rfl,hv⟩,rfl⟩:=h
 obtain ⟨m,rfl,hm⟩:=nat_of ha
 obtain ⟨q,rfl,hq⟩:=nat_of hv
 exact ⟨m,q,hm,hq,rfl⟩
end Go.Proofs.YtelbgkknneljeaaGreatDoor.VL
end

