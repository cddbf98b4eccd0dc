import Derived.Test.YtelbgkknneljeaaGreatDoorProg
import Derived.Test.YtelbgkknneljeaaGreatDoorGe13
set_option linter.unusedVariables false
set_option linter.unusedSimpArgs false
section
namespace Go.Proofs.YtelbgkknneljeaaGreatDoor.VL
open Go.RowKit
section
variable (D : Bool) (P : Program) (dst : Option Nat) (op : AOp) (os : List AOper) (s : List (Nat × AV)) (c : List (Nat × List AV)) (K : Env → Prop)
end
section
variable (D : Bool) (P : Program) (dst : Option Nat) (op : AOp) (os : List AOper) (s : List (Nat × AV)) (c : List (Nat × List AV)) (K : Env → Prop)
end
section
variable {P : Program} {E : Env} {Q : AExit → Env → Prop} {K : Env → Prop} {D : Bool} {s : List (Nat × AV)} {c : List (Nat × List AV)}
attribute [go_sem] Bool.or_true Bool.true_or Bool.or_false Bool.false_or
attribute [go_sem] List.length_cons List.length_nil List.drop_succ_cons List.drop_zero List.take_succ_cons List.take_zero List.map_cons List.map_nil List.nil_append List.cons_append List.append_nil if_true if_false List.all_cons List.all_nil Bool.and_true Bool.true_and Bool.and_false Bool.false_and Bool.not_true Bool.not_false Value.oneCell' decide_true decide_false decide_not beq_self_eq_true eq_self Bool.false_eq_true List.getElem?_map Option.map_some List.length_map Option.getD_some List.cons.injEq and_true true_and and_false false_and
attribute [go_sem] oneL cellsOf AV.one AV.row
section
variable {os : List AOper} {s : List (Nat × AV)} {c : List (Nat × List AV)} {d : Nat}
attribute [go_sem] tokFree tokFreeL
section
variable (t : TypeId) (k : IntKind) (u v : Int)
@[go_sem] theorem avBin_rem (h:(v==0)=false):avBin .rem t (.lit (.int k u)) (.lit (.int k v))=some (.lit (.int k (u.tmod v))):=by
 have h':¬ v=0:=by simpa using h
 simp [avBin,binOp,Op.intDiv,p0,Pure.pure,h']
end
attribute [go_sem] GT
attribute [go_sem] aval.cutTok
end
end
section
variable {C : Nat → Option (List AV)} {n : Nat}
end
section
variable {d : Option Nat} {g : Option (Nat × Bool)} {os : List AOper}
end
end Go.Proofs.YtelbgkknneljeaaGreatDoor.VL
end

section
set_option maxRecDepth 100000
namespace Go.Proofs.YtelbgkknneljeaaGreatDoor.VL
open Go.Proofs
def c_q1 : ACode :=
 (.seq
 (.region false [
 oo 6 (.mov (.const (.bool false)))] [6])
 (.seq
 (.region false [
 oo 15 (.callm 18 []),
 om 7 15] [15])
 (.seq
 (.seq
 (.region false [
 om 16 7,
 oo 17 (.un .not (.tmp 16))] [7,16])
 (.cond (.tmp 17)
 (.seq
 (.region false [
 oo 6 (.mov (.const (.bool false)))] [0,1,2,17])
 .ret)
 .skip))
 (.seq
 (.region false [
 om 18 0,
 oo 19 (.callm 19 [.tmp 18,.const (.int .i64 7)]),
 oo 20 (.bin .add 3 (.tmp 19) (.const (.int .i64 1))),
 om 0 20] [17,18,19,20])
 (.seq
 (.region false [
 om 21 1,
 om 22 0,
 oo 23 (.callm 19 [.tmp 21,.tmp 22]),
 om 1 23] [21,22,23])
 (.seq
 (.region false [
 om 24 2,
 om 25 0,
 oo 26 (.bin .add 3 (.tmp 25) (.const (.int .i64 1))),
 oo 27 (.callm 19 [.tmp 24,.tmp 26]),
 om 2 27] [24,25,26,27])
 (.seq
 (.region false [
 om 29 0,
 oo 30 (.callm 20 [.tmp 29,.const (.int .i64 0)]),
 oo 31 (.callm 10 [.tmp 30]),
 om 28 31,
 oo 32 (.ext (.tmp 28) 0),
 oo 33 (.ext (.tmp 28) 1),
 om 8 32,
 om 9 33] [28,29,30,31,32,33])
 (.seq
 (.seq
 (.region false [
 om 34 8,
 oo 35 (.eqp false (.tmp 34)),
 om 36 35,
 og 37 (.mov (.tmp 9)) 36 false,
 og 38 (.eqn true (.tmp 37)) 36 false,
 oo 39 (.pick (.tmp 36) (.const (.bool true)) (.tmp 38))] [9,34,35,36,37,38])
 (.cond (.tmp 39)
 (.seq
 (.region false [
 oo 6 (.mov (.const (.bool false)))] [0,1,2,8,39])
 .ret)
 .skip))
 (.seq
 (.region false [
 om 41 8,
 om 42 1,
 om 43 2,
 oo 44 (.callm 22 [.tmp 43,.const (.int .i64 77)]),
 oo 45 (.callm 21 [.tmp 41,.tmp 42,.tmp 44]),
 om 40 45,
 oo 46 (.ext (.tmp 40) 0),
 oo 47 (.ext (.tmp 40) 1),
 om 10 46,
 om 11 47] [39,40,41,42,43,44,45,46,47])
 (.seq
 (.region false [
 oo 12 (.mov (.const (.slice none 0 0)))] [])
 (.seq
 (.region false [
 om 48 1,
 om 13 48] [1,48])
 (.seq
 (.seq
 (.region false [
 oo 14 (.mov (.const (.int .i64 0)))] [])
 (.block 0
 (.loop
 (.seq
 (.seq
 (.region false [
 om 49 14,
 om 50 0,
 oo 51 (.bin .leq 3 (.tmp 49) (.tmp 50))] [49,50])
 (.cond (.tmp 51)
 .skip
 (.exit 0)))
 (.seq
 (.block 1
 (.seq
 (.region false [
 om 54 12,
 om 55 13,
 oo 56 (.bslice 1 1 [.tmp 55]),
 oo 57 (.app 1 8 [] (.tmp 54) (.tmp 56)),
 om 12 57] [51,54,55,56,57])
 (.seq
 (.region false [
 om 58 13,
 om 59 2,
 oo 60 (.bin .gtr 3 (.tmp 58) (.tmp 59))] [58,59])
 (.cond (.tmp 60)
 (.region false [
 om 61 13,
 oo 62 (.bin .sub 3 (.tmp 61) (.const (.int .i64 1))),
 om 13 62] [60,61,62])
 (.seq
 (.region false [
 om 63 13,
 oo 64 (.bin .add 3 (.tmp 63) (.const (.int .i64 1))),
 om 65 2,
 oo 66 (.bin .lss 3 (.tmp 64) (.tmp 65))] [60,63,64,65])
 (.cond (.tmp 66)
 (.region false [
 om 67 13,
 oo 68 (.bin .add 3 (.tmp 67) (.const (.int .i64 1))),
 om 13 68] [66,67,68])
 (.exit 0)))))) [])
 (.region false [
 om 52 14,
 oo 53 (.bin .add 3 (.tmp 52) (.const (.int .i64 1))),
 om 14 53] [52,53]))) [] []) [0,2,13,14,51,66]))
 (.seq
 (.region false [
 om 69 11,
 om 70 69,
 og 71 (.mov (.tmp 10)) 70 true,
 og 72 (.mov (.tmp 12)) 70 true,
 og 73 (.callm 15 [.tmp 71,.tmp 72]) 70 true,
 oo 74 (.pick (.tmp 70) (.tmp 73) (.const (.bool false))),
 om 75 74,
 og 76 (.mov (.tmp 8)) 75 true,
 og 77 (.callm 23 [.tmp 76]) 75 true,
 og 78 (.un .not (.tmp 77)) 75 true,
 oo 79 (.pick (.tmp 75) (.tmp 78) (.const (.bool false))),
 om 6 79] [8,10,11,12,69,70,71,72,73,74,75,76,77,78,79])
 .ret)))))))))))))
abbrev v_q1 : List RV:= [.tmp 6]
abbrev f_q1 : FuncId:= 4
theorem k_q1 : closedOf Tryz.prog Tryz.f4 = (false,some true,some v_q1,some c_q1.plain,80):= by kernel_rfl
theorem ac_q1 {args : List AV} {r : AV} (h : aw Tryz.prog c_q1 (env0 args) (endQ v_q1 r)) (hargs : args.length ≤ 80:= by decide) (hok : resOK r = true:= by rfl) : AC Tryz.prog f_q1 args r :=
  AC_mk (by kernel_rfl) Tryz.func4 k_q1 hargs hok (by decide) h
def c_q16 : ACode :=
 (.seq
 (.region false [
 oo 4 (.mov (.const (.int .i64 0)))] [4])
 (.seq
 (.region false [
 om 6 0,
 om 7 1,
 oo 8 (.bin .rem 3 (.tmp 6) (.tmp 7)),
 om 5 8] [0,6,7,8])
 (.seq
 (.seq
 (.region false [
 om 9 5,
 oo 10 (.bin .lss 3 (.tmp 9) (.const (.int .i64 0)))] [9])
 (.cond (.tmp 10)
 (.region false [
 om 11 5,
 om 12 1,
 oo 13 (.bin .add 3 (.tmp 11) (.tmp 12)),
 om 5 13] [1,10,11,12,13])
 .skip))
 (.seq
 (.region false [
 om 14 5,
 om 4 14] [1,5,10,14])
 .ret))))
abbrev v_q16 : List RV:= [.tmp 4]
abbrev f_q16 : FuncId:= 19
theorem k_q16 : closedOf Tryz.prog Tryz.f19 = (false,some true,some v_q16,some c_q16.plain,15):= by kernel_rfl
theorem ac_q16 {args : List AV} {r : AV} (h : aw Tryz.prog c_q16 (env0 args) (endQ v_q16 r)) (hargs : args.length ≤ 15:= by decide) (hok : resOK r = true:= by rfl) : AC Tryz.prog f_q16 args r :=
  AC_mk (by kernel_rfl) Tryz.func19 k_q16 hargs hok (by decide) h
end Go.Proofs.YtelbgkknneljeaaGreatDoor.VL
end

section
set_option maxHeartbeats 4000000
namespace Go.Proofs.YtelbgkknneljeaaGreatDoor.VL
open Go.RowKit Go.Proofs
theorem C_Number (n b:Int) (hb:0<b) (hb':b<9223372036854775808):AC Tryz.prog f_q16 [.lit (.int .i64 n),.lit (.int .i64 b)] (.lit (.int .i64 (n % b))):=by
 refine ac_q16 ?_ (Nat.le_add_left 2 13)
 have h0:(b==0)=false:=by simp;omega
 simp only [go_sem,c_q16,h0]
 have e0:=Int.emod_nonneg n (show b≠0 by omega)
 have e1:=Int.emod_lt_of_pos n hb
 have key:n.tmod b=n % b∧0≤n∨n.tmod b=n % b∧n % b=0∨n.tmod b=n % b - b∧¬ n % b=0:=by
  rw [Int.tmod_eq_emod]
  by_cases h1:0≤n
  ·simp [h1]
  ·by_cases h2:b ∣ n
   ·have:=Int.emod_eq_zero_of_dvd h2
    simp [h2,this]
   ·have h3:¬ n % b=0:=fun h=>h2 (Int.dvd_of_emod_eq_zero h)
    have h4:(b.natAbs:Int)=b:=by omega
    simp only [h1,h2,or_self,if_false,h4]
    exact .inr (.inr ⟨trivial,h3⟩)
 refine condX_of (fun h=>?_) (fun h=>?_)
 ·have h':n.tmod b<0:=by simpa using h
  have hw:IntKind.i64.wrap (n.tmod b+b)=n % b:=by
   rw [IntKind.wrap_i64]
   omega
  simp only [go_sem,hw]
 ·have h':¬ n.tmod b<0:=by simpa using h
  have hw:n.tmod b=n % b:=by
   omega
  simp only [go_sem,hw]
end Go.Proofs.YtelbgkknneljeaaGreatDoor.VL
end

section
set_option maxHeartbeats 4000000
namespace Go.Proofs.YtelbgkknneljeaaGreatDoor.VL
open Go.RowKit Go.Proofs
def wantN (k:Nat):Nat→Nat→List Int
 | 0,_=>[]
 | m+1,p=>(p:Int)::(if k<p then wantN k m (p - 1) else if p+1<k then wantN k m (p+1) else[])
theorem ln_v:∀ n,n<7→vNet (lineW (n+1) 0)=none:=by decide+kernel
theorem ln_ok (n:Nat)(h:n<7):(lineW (n+1) 0).OK:=by
 have:n=0∨n=1∨n=2∨n=3∨n=4∨n=5∨n=6:=by omega
 rcases this with rfl|rfl|rfl|rfl|rfl|rfl|rfl<;>(constructor<;>decide+kernel)
theorem ln_round:∀ n,n<7→roundW (lineW (n+1) 0)=false:=by decide+kernel
theorem ln_chain:∀ n,n<7→∀ r:Nat,r<n+1→∀ k:Nat,k<n+2→chainW (lineW (n+1) 0) (r:Int) (addrL k 77)=some (wantN k (n+2) r):=by decide+kernel
end Go.Proofs.YtelbgkknneljeaaGreatDoor.VL
end

section
set_option maxHeartbeats 4000000
namespace Go.Proofs.YtelbgkknneljeaaGreatDoor.VL
open Go.RowKit Go.Proofs
theorem bits_addr77:∀ l,l<10→bits .or .u32 (bits .or .u32 167772160 (IntKind.wrap .u32 (IntKind.wrap .u32 ((l:Nat):Int) * 2 ^ 8))) (IntKind.wrap .u32 77)=((addrL l 77:Nat):Int):=by decide+kernel
theorem C_nAddr77 (l:Nat) (hl:l<10):AC Tryz.prog f_q19 [avI l,.lit (.int .i64 77)] (avU (addrL l 77)):=by
 refine ac_q19 ?_ (Nat.le_add_left 2 _)
 simp only [go_sem,c_q19,avI,avU,avBin_shl 42 .u32 .u64 _ 8 (by decide) (by decide),bits_addr77 l hl]
theorem addrL_lt (l:Nat)(hl:l<10):addrL l 77<4294967296:=by unfold addrL;omega
theorem wantN_len (k:Nat):∀ m p,(wantN k m p).length≤m
 | 0,p=>Nat.le_refl _
 | m+1,p=>by
  have h1:=wantN_len k m (p - 1)
  have h2:=wantN_len k m (p+1)
  simp only[wantN,List.length_cons]
  split
  ·omega
  ·split
   ·omega
   ·simp
theorem wrap_pred' (k:Nat) (h:0<k) (h2:k≤9223372036854775807):IntKind.i64.wrap ((k:Int) - 1)=((k - 1:Nat):Int):=by
 have e:(k:Int) - 1=((k - 1:Nat):Int):=by omega
 rw [e]
 exact wrap_nat (k - 1) (by omega)
theorem C_RpfLines (a b c:Int):AC Tryz.prog f_q1 [.lit (.int .i64 a),.lit (.int .i64 b),.lit (.int .i64 c)] (.lit (.bool true)):=by
 refine ac_q1 ?_ (Nat.le_add_left 3 _)
 simp only [go_sem,c_q1]
 refine callX_of C_first11 ?_
 simp only [go_sem]
 refine callX_of (C_Number a 7 (by decide) (by decide)) ?_
 obtain ⟨n,hn,hn7⟩:∃ n:Nat,a % 7=(n:Int)∧n<7:=⟨(a % 7).toNat,by omega,by omega⟩
 have hw:=wrap_succ n (by omega)
 rw [hn]
 simp only [go_sem,hw]
 refine callX_of (C_Number b ((n+1:Nat):Int) (by omega) (by omega)) ?_
 obtain ⟨r,hr,hrn⟩:∃ r:Nat,b % ((n+1:Nat):Int)=(r:Int)∧r<n+1:=by
  have h1:=Int.emod_nonneg b (show ((n+1:Nat):Int)≠0 by omega)
  have h2:=Int.emod_lt_of_pos b (show (0:Int)<((n+1:Nat):Int) by omega)
  exact ⟨(b % ((n+1:Nat):Int)).toNat,by omega,by omega⟩
 rw [hr]
 have hw2:=wrap_succ (n+1) (by omega)
 simp only [go_sem,hw2]
 refine callX_of (C_Number c ((n+1+1:Nat):Int) (by omega) (by omega)) ?_
 obtain ⟨k,hk,hkn⟩:∃ k:Nat,c % ((n+1+1:Nat):Int)=(k:Int)∧k<n+2:=by
  have h1:=Int.emod_nonneg c (show ((n+1+1:Nat):Int)≠0 by omega)
  have h2:=Int.emod_lt_of_pos c (show (0:Int)<((n+1+1:Nat):Int) by omega)
  exact ⟨(c % ((n+1+1:Nat):Int)).toNat,by omega,by omega⟩
 rw [hk]
 have hv:=ln_v n hn7
 have hok:=ln_ok n hn7
 have hf:=vfit hv
 have hLn:=C_Line (n+1) 0 (by omega) (by omega) (by decide)
 have hC:=C_Chain (lineW (n+1) 0) hok hf hv (r:Int) ⟨by omega,by
  have:(lineW (n+1) 0).rts.length=n+1:=by simp [lineW,rtrs]
  omega⟩ (addrL k 77) (addrL_lt k (by omega))
 have hwl:=wantN_len k (n+2) r
 rw [ln_chain n hn7 r hrn k hkn] at hC
 have hR:=C_Round (lineW (n+1) 0) hok hf hv
 rw [ln_round n hn7] at hR
 have hN:=C_New (lineW (n+1) 0) hok hf hv
 have hA:=C_nAddr77 k (by omega)
 simp only [avI] at hLn hA
 simp only [chainV,avU] at hC hA
 generalize hW:wantN k (n+2) r=W at *
 have hS:=C_SameInts W W (by omega)
 simp only [decide_true] at hS
 simp only [go_sem]
 refine callX_of hLn ?_
 simp only [go_sem,low_net,one_net,len_net,take_net,Nat.le_refl]
 refine callX_of hN ?_
 simp only [go_sem]
 refine callX_of hA ?_
 simp only [go_sem]
 refine callX_of hC ?_
 simp only [go_sem]
 generalize lineW (n+1) 0=w at *
 refine aw_loop (fun m E=>∃ (i p:Nat) (L:List Int) (v:AV),i+m=n+2∧p<20∧L++wantN k m p=W∧((i=0∧L=[]∧v=.sl .nil 0 [])∨v=.sl (.own [57]) 1 (L.map iI)) ∧
  E=mkE [(0,.lit (.int .i64 ((n+1:Nat):Int))),(2,.lit (.int .i64 (k:Nat))),(8,.rp (topoV w)),(10,.sl .none 1 (W.map iI)),(11,.lit (.bool true)),(12,v),(13,.lit (.int .i64 (p:Nat))),(14,.lit (.int .i64 (i:Nat)))] []) (n+2) ?_ ?_
 ·exact ⟨0,r,[],_,by omega,by omega,by rw [List.nil_append];exact hW,.inl ⟨rfl,rfl,rfl⟩,rfl⟩
 ·rintro m _ ⟨i,p,L,v,him,hp,hLW,hvv,rfl⟩
  by_cases hi:i≤n+1
  ·obtain ⟨m,rfl⟩:∃ q,m=q+1:=⟨m - 1,by omega⟩
   have q1:((i:Int)≤((n+1:Nat):Int))=True:=eq_true (by omega)
   have hwi:=wrap_succ i (by omega)
   have hwp:=wrap_succ p (by omega)
   have hll:L.length≤W.length:=by rw [← hLW,List.length_append];omega
   have hlen:(L.map iI).length+[AV.lit (.int .i64 (p:Nat))].length≤4294967296:=by
    simp only [List.length_map,List.length_singleton]
    omega
   have e2:(L++[(p:Int)]).map iI=L.map iI++[.lit (.int .i64 (p:Nat))]:=by rw [List.map_append];rfl
   have en:∀ s c,avApp 1 8 [] 57 s c (.sl .nil 0 []) (.sl (.own [56]) 1 [.lit (.int .i64 (p:Nat))])=_:=fun s c=>avApp_nil (d:=57) (s:=s) (c:=c) 1 8 0 [] [] [.lit (.int .i64 (p:Nat))] (.own [56]) (by simp) (by decide)
   have ea:∀ s c,avApp 1 8 [] 57 s c (.sl (.own [57]) 1 (L.map iI)) (.sl (.own [56]) 1 [.lit (.int .i64 (p:Nat))])=_:=fun s c=>avApp_own (d:=57) (s:=s) (c:=c) 1 8 [] [57] (L.map iI) [.lit (.int .i64 (p:Nat))] (.own [56]) hlen (by decide) rfl
   rw [wantN] at hLW
   by_cases h1:k<p
   ·have f1:((k:Int)<(p:Int))=True:=eq_true (by omega)
    have f2:((p:Int) > (k:Int))=True:=eq_true (by omega)
    have hwq:=wrap_pred' p (by omega) (by omega)
    rw [if_pos h1] at hLW
    have hLW2:(L++[(p:Int)])++wantN k m (p - 1)=W:=by rw [List.append_assoc];exact hLW
    rcases hvv with ⟨rfl,rfl,rfl⟩ | rfl
    ·simp only [go_sem,q1,decide_true,en,f1,f2,hwq,hwi]
     exact ⟨m,by omega,0+1,p - 1,_,_,by omega,by omega,hLW2,.inr rfl,rfl⟩
    ·simp only [go_sem,q1,decide_true,ea,f1,f2,hwq,hwi]
     exact ⟨m,by omega,i+1,p - 1,_,_,by omega,by omega,hLW2,.inr rfl,by rw [e2]⟩
   ·have f1:((k:Int)<(p:Int))=False:=eq_false (by omega)
    have f2:((p:Int) > (k:Int))=False:=eq_false (by omega)
    rw [if_neg h1] at hLW
    by_cases h2:p+1<k
    ·have f3:(((p+1:Nat):Int)<(k:Int))=True:=eq_true (by omega)
     rw [if_pos h2] at hLW
     have hLW2:(L++[(p:Int)])++wantN k m (p+1)=W:=by rw [List.append_assoc];exact hLW
     rcases hvv with ⟨rfl,rfl,rfl⟩ | rfl
     ·simp only [go_sem,q1,decide_true,decide_false,en,f1,f2,f3,hwp,hwi]
      exact ⟨m,by omega,0+1,p+1,_,_,by omega,by omega,hLW2,.inr rfl,rfl⟩
     ·simp only [go_sem,q1,decide_true,decide_false,ea,f1,f2,f3,hwp,hwi]
      exact ⟨m,by omega,i+1,p+1,_,_,by omega,by omega,hLW2,.inr rfl,by rw [e2]⟩
    ·have f3:(((p+1:Nat):Int)<(k:Int))=False:=eq_false (by omega)
     rw [if_neg h2] at hLW
     rw [← hLW,e2] at hS
     rw [← hLW,e2]
     rcases hvv with ⟨rfl,rfl,rfl⟩ | rfl
     ·simp only [List.map_nil,List.nil_append] at hS
      simp only [go_sem,q1,decide_true,decide_false,en,f1,f2,f3,hwp,List.map_nil,List.nil_append]
      refine callX_of hS ?_
      simp only [go_sem]
      refine callX_of hR ?_
      simp only [go_sem]
     ·simp only [go_sem,q1,decide_true,decide_false,ea,f1,f2,f3,hwp]
      refine callX_of hS ?_
      simp only [go_sem]
      refine callX_of hR ?_
      simp only [go_sem]
  ·have q1:((i:Int)≤((n+1:Nat):Int))=False:=eq_false (by omega)
   have hm:m=0:=by omega
   subst hm
   rw [wantN,List.append_nil] at hLW
   subst hLW
   rcases hvv with ⟨rfl,_,_⟩ | rfl
   ·omega
   simp only [go_sem,q1,decide_false]
   refine callX_of hS ?_
   simp only [go_sem]
   refine callX_of hR ?_
   simp only [go_sem]
end Go.Proofs.YtelbgkknneljeaaGreatDoor.VL
end

