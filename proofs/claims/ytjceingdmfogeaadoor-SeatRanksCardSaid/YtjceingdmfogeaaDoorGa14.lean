import Derived.Test.YtjceingdmfogeaaDoorGa13
set_option linter.unusedVariables false
set_option linter.unusedSimpArgs false
section
set_option maxHeartbeats 4000000
namespace Go.Proofs.YtjceingdmfogeaaDoor.VL
open Go.RowKit Go.Proofs
theorem net_ro (w : NW) (l : List NRo) (h1 : w.rts = rtrs 1) (h2 : w.lks = links 2) (h3 : w.pts = prts 1) (h4 : w.ros = l) (h5 : w.rgs = [⟨3758096384,4,addrL 0 1⟩]) (h6 : w.scs = []) (h7 : w.mbs = []) :
  netV w = [.sl .none 2 ((rtrs 1).map avRouter),.sl .none 3 ((links 2).map avLink),.sl .none 3 ((prts 1).map avPort),.sl .none 5 (l.map avRoute),.sl .none 3 [avRange ⟨3758096384,4,addrL 0 1⟩],.sl .none 3 [],.sl .none 4 []]:= by
 simp only [netV,h1,h2,h3,h4,h5,h6,h7,List.map_cons,List.map_nil]
theorem net_line1 : netV (lineW 1 0) = [.sl .none 2 ((rtrs 1).map avRouter),.sl .none 3 ((links 2).map avLink),.sl .none 3 ((prts 1).map avPort),.sl .none 5 [],.sl .none 3 [avRange ⟨3758096384,4,addrL 0 1⟩],.sl .none 3 [],.sl .none 4 []] :=
 net_ro (lineW 1 0) [] rfl rfl rfl rfl rfl rfl rfl
def deepR (n : Nat) (c : Int) (i : Nat) : NRo:= ⟨0,335544320 + i * 65536,16,if i = n then 167772160 + 256 + 99 else 335544320 + (i + 1) * 65536 + 1,c⟩
def deepL (n : Nat) (c : Int) (k : Nat) : List NRo:= (List.range k).map (deepR n c)
theorem deepL_succ (n : Nat) (c : Int) (k : Nat) : deepL n c (k + 1) = deepL n c k ++ [deepR n c k]:= by simp [deepL,List.range_succ]
theorem deepL_len (n : Nat) (c : Int) (k : Nat) : (deepL n c k).length = k:= by simp [deepL]
theorem deep_ros (n : Nat) (c : Int) : (deepW (n + 1) c).ros = deepL n c (n + 1):= by
 refine List.ext_getElem? fun i => ?_
 rw [deepW,costed_get]
 simp only [deep0,deepL,List.getElem?_map]
 by_cases h : i < n + 1
 ·simp [h,deepR]
 ·simp [h]
theorem deep_net (n : Nat) (c : Int) : netV (deepW (n + 1) c) = [.sl .none 2 ((rtrs 1).map avRouter),.sl .none 3 ((links 2).map avLink),.sl .none 3 ((prts 1).map avPort),.sl .none 5 ((deepL n c (n + 1)).map avRoute),.sl .none 3 [avRange ⟨3758096384,4,addrL 0 1⟩],.sl .none 3 [],.sl .none 4 []] :=
 net_ro _ _ rfl rfl rfl (deep_ros n c) rfl rfl rfl
theorem deep0_ok (n : Nat) (h : n < 10) : (deep0 (n + 1)).OK:= by
 have : n = 0 ∨ n = 1 ∨ n = 2 ∨ n = 3 ∨ n = 4 ∨ n = 5 ∨ n = 6 ∨ n = 7 ∨ n = 8 ∨ n = 9:= by omega
 rcases this with rfl | rfl | rfl | rfl | rfl | rfl | rfl | rfl | rfl | rfl <;> (constructor <;> decide +kernel)
theorem costed_ok {w : NW} (o : w.OK) (f : Nat → Int) : (costed w f).OK:= by
 have e1 : ∀ x ∈ (costed w f).ros,∃ y ∈ w.ros,x.a = y.a ∧ x.via = y.via:= by
  intro x hx
  obtain ⟨i,hi⟩:= List.mem_iff_getElem?.1 hx
  rw [costed_get] at hi
  obtain ⟨y,hy,rfl⟩:= Option.map_eq_some_iff.1 hi
  exact ⟨y,List.mem_of_getElem? hy,rfl,rfl⟩
 have e2 : ∀ x ∈ (costed w f).ros,x.a < 4294967296:= fun x hx => by
  obtain ⟨y,hy,e,_⟩:= e1 x hx
  rw [e]
  exact o.roa y hy
 have e3 : ∀ x ∈ (costed w f).ros,x.via < 4294967296:= fun x hx => by
  obtain ⟨y,hy,_,e⟩:= e1 x hx
  rw [e]
  exact o.rov y hy
 have e4 : (costed w f).ros.length < 9223372036854775808:= by
  rw [costed_len]
  exact o.l4
 exact ⟨o.rtn,o.lkn,o.lka,o.pta,e2,e3,o.rga,o.rgr,o.scs,o.scg,o.mbg,o.mbs,o.mbl,o.l1,o.l2,o.l3,e4,o.l5,o.l6,o.l7⟩
theorem bits_deepA : ∀ i,i < 10 → bits .or .u32 335544320 (IntKind.wrap .u32 (IntKind.wrap .u32 ((i : Nat) : Int) * 2 ^ 16)) = ((335544320 + i * 65536 : Nat) : Int) ∧
  bits .or .u32 (bits .or .u32 335544320 (IntKind.wrap .u32 (IntKind.wrap .u32 ((i + 1 : Nat) : Int) * 2 ^ 16))) 1 = ((335544320 + (i + 1) * 65536 + 1 : Nat) : Int):= by decide +kernel
def ringR (n i : Nat) : NRo:= ⟨0,(20 + i) * 16777216,8,(20 + (i + 1) % n) * 16777216 + 1,0⟩
def ringL (n k : Nat) : List NRo:= (List.range k).map (ringR n)
theorem ringL_succ (n k : Nat) : ringL n (k + 1) = ringL n k ++ [ringR n k]:= by simp [ringL,List.range_succ]
theorem ringL_len (n k : Nat) : (ringL n k).length = k:= by simp [ringL]
theorem ring_net (n : Nat) : netV (ringW n) = [.sl .none 2 ((rtrs 1).map avRouter),.sl .none 3 ((links 2).map avLink),.sl .none 3 ((prts 1).map avPort),.sl .none 5 ((ringL n n).map avRoute),.sl .none 3 [avRange ⟨3758096384,4,addrL 0 1⟩],.sl .none 3 [],.sl .none 4 []] :=
 net_ro _ _ rfl rfl rfl rfl rfl rfl rfl
def leastR (f : Nat → Int) (i : Nat) : NRo:= ⟨0,335544320,8,addrL 1 (50 + i),f i⟩
def leastL (f : Nat → Int) (k : Nat) : List NRo:= (List.range k).map (leastR f)
theorem leastL_succ (f : Nat → Int) (k : Nat) : leastL f (k + 1) = leastL f k ++ [leastR f k]:= by simp [leastL,List.range_succ]
theorem leastL_len (f : Nat → Int) (k : Nat) : (leastL f k).length = k:= by simp [leastL]
theorem leastL_get (f : Nat → Int) {k i : Nat} (h : i < k) : (leastL f k)[i]? = some (leastR f i):= by simp [leastL,h]
theorem least_ros (m : Nat) (f : Nat → Int) : (leastW (m + 1) f false).ros = leastL f (m + 1) ∧ (leastW (m + 1) f true).ros = leastL f (m + 1) ++ [lsL]:= by
 have one : ∀ (b : Bool) (i : Nat),(leastW (m + 1) f b).ros[i]? = if i < m + 1 then some (leastR f i) else if i = m + 1 ∧ b = true then some lsL else none:= by
  intro b i
  rw [leastW,costed_get]
  simp only [least0]
  by_cases h : i < m + 1
  ·rw [List.getElem?_append_left (by simpa using h),if_pos h]
   simp [h,leastR,lsR,lsF]
  ·rw [List.getElem?_append_right (by simp; omega),if_neg h]
   simp only [List.length_map,List.length_range]
   cases b
   ·simp
   ·by_cases h2 : i = m + 1
    ·subst h2
     simp [lsL,lsF]
    ·have e9 : (if i = m + 1 ∧ true = true then some lsL else none) = none:= if_neg fun hh => h2 hh.1
     rw [e9]
     have e : ∃ q,i - (m + 1) = q + 1:= ⟨i - (m + 1) - 1,by omega⟩
     obtain ⟨q,e⟩:= e
     rw [e]
     rfl
 constructor
 ·refine List.ext_getElem? fun i => ?_
  rw [one]
  by_cases h : i < m + 1
  ·rw [if_pos h,leastL_get f h]
  ·rw [if_neg h,if_neg (by simp),List.getElem?_eq_none (by rw [leastL_len]; omega)]
 ·refine List.ext_getElem? fun i => ?_
  rw [one]
  by_cases h : i < m + 1
  ·rw [if_pos h,List.getElem?_append_left (by rw [leastL_len]; exact h),leastL_get f h]
  ·rw [if_neg h,List.getElem?_append_right (by rw [leastL_len]; omega),leastL_len]
   by_cases h2 : i = m + 1
   ·subst h2
    simp
   ·rw [if_neg (fun hh => h2 hh.1),List.getElem?_eq_none (by simp only [List.length_singleton]; omega)]
theorem least_net (m : Nat) (f : Nat → Int) (b : Bool) : netV (leastW (m + 1) f b) = [.sl .none 2 ((rtrs 1).map avRouter),.sl .none 3 ((links 2).map avLink),.sl .none 3 ((prts 1).map avPort),.sl .none 5 ((leastL f (m + 1) ++ if b then [lsL] else []).map avRoute),.sl .none 3 [avRange ⟨3758096384,4,addrL 0 1⟩],.sl .none 3 [],.sl .none 4 []]:= by
 refine net_ro _ _ rfl rfl rfl ?_ rfl rfl rfl
 cases b
 ·simpa using (least_ros m f).1
 ·simpa using (least_ros m f).2
theorem least_rou (m : Nat) (hm : m < 6) (f : Nat → Int) : rouW (leastW (m + 1) f true) 0 335544325 = [m + 1] ∧ (rouW (leastW (m + 1) f false) 0 335544325).length = m + 1:= by
 obtain ⟨_,_,r1,r2,_⟩:= least0_facts m hm
 rw [leastW,leastW,costed_rou,costed_rou,r1,r2]
 simp
end Go.Proofs.YtjceingdmfogeaaDoor.VL
end

section
set_option maxHeartbeats 4000000
namespace Go.Proofs.YtjceingdmfogeaaDoor.VL
open Go.RowKit Go.Proofs
theorem C_RibDeep (a b : Int) : AC Tryd.prog f_q3 [.lit (.int .i64 a),.lit (.int .i64 b)] (.lit (.bool true)):= by
 refine ac_q3 ?_ (Nat.le_add_left 2 _)
 simp only [go_sem,c_q3]
 refine callX_of C_first9 ?_
 simp only [go_sem]
 refine callX_of (C_Number a 9 (by decide) (by decide)) ?_
 obtain ⟨n,hn,hn9⟩ : ∃ n : Nat,a % 9 = (n : Int) ∧ n < 9:= ⟨(a % 9).toNat,by omega,by omega⟩
 have hw:= wrap_succ n (by omega)
 rw [hn]
 simp only [go_sem,hw]
 refine callX_of (C_Number b 65536 (by decide) (by decide)) ?_
 obtain ⟨c,hc,h0,h1⟩ : ∃ c : Int,b % 65536 = c ∧ 0 ≤ c ∧ c ≤ 65535:= ⟨b % 65536,rfl,by omega,by omega⟩
 rw [hc]
 have hv:= deepW_v n (by omega) h0 h1
 have hok : (deepW (n + 1) c).OK:= costed_ok (deep0_ok n (by omega)) _
 have hf:= vfit hv
 have hLn:= C_Line 1 0 (by decide) (by decide) (by decide)
 have hN:= C_New (deepW (n + 1) c) hok hf hv
 have hL:= C_Look (deepW (n + 1) c) hok hf hv 0 335544325 (by decide)
 rw [deep_look c n (by omega)] at hL
 rw [deep_net] at hN
 rw [net_line1] at hLn
 have hA:= C_nAddrG 1 99 (by decide) (by decide)
 simp only [avI,avU] at hLn hL hA
 generalize (rtrs 1).map avRouter = A1 at *
 generalize (links 2).map avLink = A2 at *
 generalize (prts 1).map avPort = A3 at *
 generalize avRange ⟨3758096384,4,addrL 0 1⟩ = A5 at *
 generalize topoV (deepW (n + 1) c) = T at *
 simp only [go_sem]
 refine callX_of hLn ?_
 simp only [go_sem]
 refine aw_loop (fun m E => ∃ i : Nat,i + m = n + 1 ∧ E = mkE [(0,.lit (.int .i64 ((n + 1 : Nat) : Int))),(1,.lit (.int .i64 c)),(6,.lp 6 0),(7,.lit (.int .i64 (i : Nat)))] [(6,[.sl .none 2 A1,.sl .none 3 A2,.sl .none 3 A3,rowO [50] 5 ((deepL n c i).map avRoute),.sl .none 3 [A5],.sl .none 3 [],.sl .none 4 []])]) (n + 1) ?_ ?_
 ·exact ⟨0,by omega,rfl⟩
 ·rintro m _ ⟨i,him,rfl⟩
  by_cases hi : i < n + 1
  ·have f1 : ((i : Int) < ((n + 1 : Nat) : Int)) = True:= eq_true (by omega)
   have w1:= wrap_succ i (by omega)
   have w2 : IntKind.i64.wrap (((n + 1 : Nat) : Int) - 1) = ((n : Nat) : Int):= by
    rw [show ((n + 1 : Nat) : Int) - 1 = ((n : Nat) : Int) by omega]
    exact wrap_nat n (by omega)
   obtain ⟨b1,b2⟩:= bits_deepA i (by omega)
   have e1 : (deepL n c (i + 1)).map avRoute = (deepL n c i).map avRoute ++ [avRoute (deepR n c i)]:= by rw [deepL_succ,List.map_append]; rfl
   have hlen : ((deepL n c i).map avRoute).length ≤ 1000:= by rw [List.length_map,deepL_len]; omega
   have sh : ∀ x,avBin .shl 45 (.lit (.int .u32 x)) (.lit (.int .u64 16)) = some (.lit (.int .u32 (IntKind.wrap .u32 (x * 2 ^ 16)))):= fun x => avBin_shl 45 .u32 .u64 x 16 (by decide) (by decide)
   by_cases hin : i = n
   ·have k1 : ((i : Int) == (n : Int)) = true:= by simp [hin]
    have er : avRoute (deepR n c i) = .agg [.lit (.int .i64 0),.lit (.int .u32 ((335544320 + i * 65536 : Nat) : Int)),.lit (.int .i64 16),.lit (.int .u32 ((addrL 1 99 : Nat) : Int)),.lit (.int .i64 c)]:= by
     simp only [deepR,avRoute,avU,if_pos hin]
     rfl
    generalize (deepL n c i).map avRoute = R at *
    cases R with
    | nil =>
     have ea : ∀ s c x,avApp 5 40 [] 50 s c (.sl .nil 0 []) (.sl (.own [49]) 5 [AV.agg x]) = _:= fun s c x => avApp_nil (d:= 50) (s:= s) (c:= c) 5 40 0 [] [] [AV.agg x] (.own [49]) (by simp) (by decide)
     simp only [go_sem,f1,decide_true,rowO_nil,w1,w2,k1,sh,b1,b2]
     refine callX_of hA ?_
     simp only [go_sem,rowO_nil,w1,w2,k1,sh,b1,b2,ea]
     exact ⟨m - 1,by omega,i + 1,by omega,by rw [e1,er]; rfl⟩
    | cons z zs =>
     have ea : ∀ s c x,avApp 5 40 [] 50 s c (.sl (.own [50]) 5 (z :: zs)) (.sl (.own [49]) 5 [AV.agg x]) = _:= fun s c x => avApp_own (d:= 50) (s:= s) (c:= c) 5 40 [] [50] (z :: zs) [AV.agg x] (.own [49]) (by simp at hlen ⊢; omega) (by decide) rfl
     simp only [go_sem,f1,decide_true,rowO_cons,w1,w2,k1,sh,b1,b2]
     refine callX_of hA ?_
     simp only [go_sem,rowO_cons,w1,w2,k1,sh,b1,b2,ea]
     exact ⟨m - 1,by omega,i + 1,by omega,by rw [e1,er]; rfl⟩
   ·have k1 : ((i : Int) == (n : Int)) = false:= by simp; omega
    have er : avRoute (deepR n c i) = .agg [.lit (.int .i64 0),.lit (.int .u32 ((335544320 + i * 65536 : Nat) : Int)),.lit (.int .i64 16),.lit (.int .u32 ((335544320 + (i + 1) * 65536 + 1 : Nat) : Int)),.lit (.int .i64 c)]:= by
     simp only [deepR,avRoute,avU,if_neg hin]
    generalize (deepL n c i).map avRoute = R at *
    cases R with
    | nil =>
     have ea : ∀ s c x,avApp 5 40 [] 50 s c (.sl .nil 0 []) (.sl (.own [49]) 5 [AV.agg x]) = _:= fun s c x => avApp_nil (d:= 50) (s:= s) (c:= c) 5 40 0 [] [] [AV.agg x] (.own [49]) (by simp) (by decide)
     simp only [go_sem,f1,decide_true,rowO_nil,w1,w2,k1,sh,b1,b2,ea]
     exact ⟨m - 1,by omega,i + 1,by omega,by rw [e1,er]; rfl⟩
    | cons z zs =>
     have ea : ∀ s c x,avApp 5 40 [] 50 s c (.sl (.own [50]) 5 (z :: zs)) (.sl (.own [49]) 5 [AV.agg x]) = _:= fun s c x => avApp_own (d:= 50) (s:= s) (c:= c) 5 40 [] [50] (z :: zs) [AV.agg x] (.own [49]) (by simp at hlen ⊢; omega) (by decide) rfl
     simp only [go_sem,f1,decide_true,rowO_cons,w1,w2,k1,sh,b1,b2,ea]
     exact ⟨m - 1,by omega,i + 1,by omega,by rw [e1,er]; rfl⟩
  ·have f1 : ((i : Int) < ((n + 1 : Nat) : Int)) = False:= eq_false (by omega)
   have ei : i = n + 1:= by omega
   subst ei
   have en : rowO [50] 5 ((deepL n c (n + 1)).map avRoute) = .sl (.own [50]) 5 ((deepL n c (n + 1)).map avRoute):= rowO_ne (by
    intro e
    have:= congrArg List.length e
    rw [List.length_map,deepL_len] at this
    simp at this)
   have hx : ∃ x : Int,((n + 1 : Nat) : Int) * c = x ∧ 0 ≤ x ∧ x ≤ 655350:= by
    refine ⟨_,rfl,Int.mul_nonneg (by omega) h0,?_⟩
    have:= Int.mul_le_mul (a:= ((n + 1 : Nat) : Int)) (b:= c) (c:= 10) (d:= 65535) (by omega) h1 h0 (by decide)
    omega
   have hcap:= capN_min h0 h1 (n + 1)
   obtain ⟨x,hx,hx0,hx1⟩:= hx
   rw [hx] at hcap
   have wx : IntKind.i64.wrap x = x:= by rw [IntKind.wrap_i64]; omega
   rw [en]
   generalize (deepL n c (n + 1)).map avRoute = R at *
   simp only [go_sem,f1,decide_false]
   refine callX_of hN ?_
   simp only [go_sem]
   refine callX_of hL ?_
   by_cases h6 : 6 < n + 1
   ·have f2 : (((n + 1 : Nat) : Int) > 6) = True:= eq_true (by omega)
    have f3 : ((6 : Int) < ((n + 1 : Nat) : Int)) = True:= eq_true (by omega)
    rw [if_pos h6]
    simp only [go_sem,lookV,way0,f2,f3,decide_true]
   ·have f2 : (((n + 1 : Nat) : Int) > 6) = False:= eq_false (by omega)
    have f3 : ((6 : Int) < ((n + 1 : Nat) : Int)) = False:= eq_false (by omega)
    have k1 : (((1 : Nat) : Int) == 1) = true:= rfl
    have ec : capN c (n + 1) = if 65535 < x then 65535 else x:= by
     rw [hcap]
     split <;> omega
    rw [if_neg h6]
    simp only [go_sem,lookV,wayV,avI,avU,f2,f3,decide_false,k1]
    refine callX_of hA ?_
    have k2 : (((167772515 : Nat) : Int) == ((addrL 1 99 : Nat) : Int)) = true:= rfl
    simp only [go_sem,k2,hx,wx,avMm_min',ec,BEq.rfl]
end Go.Proofs.YtjceingdmfogeaaDoor.VL
end

section
set_option maxHeartbeats 4000000
namespace Go.Proofs.YtjceingdmfogeaaDoor.VL
open Go.RowKit Go.Proofs
theorem C_RibLeast (l : List Int) (b : Int) : AC Tryd.prog f_q4 [.sl .none 1 (l.map iI),.lit (.int .i64 b)] (.lit (.bool true)):= by
 refine ac_q4 ?_ (Nat.le_add_left 2 _)
 simp only [go_sem,c_q4]
 refine callX_of C_first9 ?_
 by_cases hl0 : l.length = 0
 ·have k0 : ((l.length : Int) == 0) = true:= by simp [hl0]
  simp only [go_sem,List.length_map,k0]
 by_cases hl6 : 6 < l.length
 ·have k0 : ((l.length : Int) == 0) = false:= beq_eq_false_iff_ne.2 (by omega)
  have f2 : ((l.length : Int) > 6) = True:= eq_true (by omega)
  have f3 : ((6 : Int) < (l.length : Int)) = True:= eq_true (by omega)
  simp only [go_sem,List.length_map,k0,f2,f3,decide_true]
 have k0 : ((l.length : Int) == 0) = false:= beq_eq_false_iff_ne.2 (by omega)
 have f2 : ((l.length : Int) > 6) = False:= eq_false (by omega)
 have f3 : ((6 : Int) < (l.length : Int)) = False:= eq_false (by omega)
 obtain ⟨n,hn⟩ : ∃ n,l.length = n + 1:= ⟨l.length - 1,by omega⟩
 obtain ⟨f,hfd⟩ : ∃ f : Nat → Int,∀ i,f i = (l[i]?.getD 0) % 5:= ⟨_,fun _ => rfl⟩
 have hfb : ∀ i,0 ≤ f i ∧ f i ≤ 4:= fun i => by rw [hfd]; omega
 have hLn:= C_Line 1 0 (by decide) (by decide) (by decide)
 rw [net_line1] at hLn
 have hv : ∀ g,vNet (leastW (n + 1) f g) = none:= fun g => leastW_v n (by omega) f hfb g
 have hok : ∀ g,(leastW (n + 1) f g).OK:= fun g => leastW_ok n (by omega) f g
 have hN:= fun g => C_New (leastW (n + 1) f g) (hok g) (vfit (hv g)) (hv g)
 have hL:= fun g => C_Look (leastW (n + 1) f g) (hok g) (vfit (hv g)) (hv g) 0 335544325 (by decide)
 have hR:= fun g => C_Routes (leastW (n + 1) f g) (hok g) (vfit (hv g)) (hv g) 0 335544325 (by decide)
 obtain ⟨look1,look2⟩:= leastW_look n (by omega) f hfb
 obtain ⟨rou1,rou2⟩:= least_rou n (by omega) f
 simp only [least_net] at hN
 have hbl:= firstL_le f (n + 1)
 simp only [avI] at hLn
 generalize (rtrs 1).map avRouter = A1 at *
 generalize (links 2).map avLink = A2 at *
 generalize (prts 1).map avPort = A3 at *
 generalize avRange ⟨3758096384,4,addrL 0 1⟩ = A5 at *
 simp only [go_sem,List.length_map,k0,f2,f3,decide_false]
 refine callX_of hLn ?_
 simp only [go_sem,List.length_map]
 refine aw_loop (fun m E => ∃ i : Nat,i + m = l.length ∧ E = mkE [(0,.sl .none 1 (l.map iI)),(1,.lit (.int .i64 b)),(5,.lit (.bool true)),(6,.lp 6 0),(7,.lit (.int .i64 (firstL f i : Nat))),(8,.lit (.int .i64 (i : Nat)))] [(6,[.sl .none 2 A1,.sl .none 3 A2,.sl .none 3 A3,rowO [49] 5 ((leastL f i).map avRoute),.sl .none 3 [A5],.sl .none 3 [],.sl .none 4 []])]) l.length ?_ ?_
 ·exact ⟨0,by omega,rfl⟩
 ·rintro m _ ⟨i,him,rfl⟩
  by_cases hi : i < l.length
  ·have f1 : ((i : Int) < (l.length : Int)) = True:= eq_true (by omega)
   have w1:= wrap_succ i (by omega)
   have w2 : IntKind.i64.wrap (50 + (i : Int)) = ((50 + i : Nat) : Int):= by
    rw [show 50 + (i : Int) = ((50 + i : Nat) : Int) by omega]
    exact wrap_nat (50 + i) (by omega)
   obtain ⟨x,hx⟩ : ∃ x,l[i]? = some x:= ⟨l[i],List.getElem?_eq_getElem hi⟩
   have hfi : x % 5 = f i:= by rw [hfd,hx]; rfl
   have hNum:= C_Number x 5 (by decide) (by decide)
   rw [hfi] at hNum
   have hA:= C_nAddrG 1 (50 + i) (by decide) (by omega)
   simp only [avI,avU] at hA
   have e1 : (leastL f (i + 1)).map avRoute = (leastL f i).map avRoute ++ [avRoute (leastR f i)]:= by rw [leastL_succ,List.map_append]; rfl
   have hlen : ((leastL f i).map avRoute).length ≤ 1000:= by rw [List.length_map,leastL_len]; omega
   have er : avRoute (leastR f i) = .agg [.lit (.int .i64 0),.lit (.int .u32 335544320),.lit (.int .i64 8),.lit (.int .u32 ((addrL 1 (50 + i) : Nat) : Int)),.lit (.int .i64 (f i))]:= rfl
   have hfl:= firstL_le f i
   have hget : ((leastL f i).map avRoute ++ [avRoute (leastR f i)])[firstL f i]? = some (avRoute (leastR f (firstL f i))):= by
    rw [← e1,List.getElem?_map,leastL_get f (by omega)]
    rfl
   have er2 : avRoute (leastR f (firstL f i)) = .agg [.lit (.int .i64 0),.lit (.int .u32 335544320),.lit (.int .i64 8),.lit (.int .u32 ((addrL 1 (50 + firstL f i) : Nat) : Int)),.lit (.int .i64 (f (firstL f i)))]:= rfl
   have hrI:= fun x => avRow_some 1 .none (AV.lit x) rfl
   have hrA:= fun x => avRow_some 5 (.own [49]) (AV.agg x) rfl
   have hs : firstL f (i + 1) = if f i < f (firstL f i) then i else firstL f i:= rfl
   rw [er] at e1 hget
   rw [er2] at hget
   generalize (leastL f i).map avRoute = R at *
   generalize firstL f i = q at *
   by_cases hlt : f i < f q
   ·have g1 : (f i < f q) = True:= eq_true hlt
    rw [if_pos hlt] at hs
    cases R with
    | nil =>
     have ea : ∀ s c x,avApp 5 40 [] 49 s c (.sl .nil 0 []) (.sl (.own [48]) 5 [AV.agg x]) = _:= fun s c x => avApp_nil (d:= 49) (s:= s) (c:= c) 5 40 0 [] [] [AV.agg x] (.own [48]) (by simp) (by decide)
     rw [List.nil_append] at hget
     simp only [go_sem,List.length_map,f1,decide_true,rowO_nil,w1,w2,Int.natCast_nonneg,Int.toNat_natCast,List.getElem?_map,hx,Option.map_some,hrI,iI]
     refine callX_of hNum ?_
     simp only [go_sem,rowO_nil,w1,w2]
     refine callX_of hA ?_
     simp only [go_sem,ea,w1,Int.natCast_nonneg,Int.toNat_natCast,hget,hrA,g1,decide_true]
     exact ⟨m - 1,by omega,i + 1,by omega,by rw [e1,hs]; rfl⟩
    | cons z zs =>
     rw [List.cons_append] at hget
     have ea : ∀ s c x,avApp 5 40 [] 49 s c (.sl (.own [49]) 5 (z :: zs)) (.sl (.own [48]) 5 [AV.agg x]) = _:= fun s c x => avApp_own (d:= 49) (s:= s) (c:= c) 5 40 [] [49] (z :: zs) [AV.agg x] (.own [48]) (by simp at hlen ⊢; omega) (by decide) rfl
     simp only [go_sem,List.length_map,f1,decide_true,rowO_cons,w1,w2,Int.natCast_nonneg,Int.toNat_natCast,List.getElem?_map,hx,Option.map_some,hrI,iI]
     refine callX_of hNum ?_
     simp only [go_sem,rowO_cons,w1,w2]
     refine callX_of hA ?_
     simp only [go_sem,ea,w1,Int.natCast_nonneg,Int.toNat_natCast,hget,hrA,g1,decide_true]
     exact ⟨m - 1,by omega,i + 1,by omega,by rw [e1,hs]; rfl⟩
   ·have g1 : (f i < f q) = False:= eq_false hlt
    rw [if_neg hlt] at hs
    cases R with
    | nil =>
     have ea : ∀ s c x,avApp 5 40 [] 49 s c (.sl .nil 0 []) (.sl (.own [48]) 5 [AV.agg x]) = _:= fun s c x => avApp_nil (d:= 49) (s:= s) (c:= c) 5 40 0 [] [] [AV.agg x] (.own [48]) (by simp) (by decide)
     rw [List.nil_append] at hget
     simp only [go_sem,List.length_map,f1,decide_true,rowO_nil,w1,w2,Int.natCast_nonneg,Int.toNat_natCast,List.getElem?_map,hx,Option.map_some,hrI,iI]
     refine callX_of hNum ?_
     simp only [go_sem,rowO_nil,w1,w2]
     refine callX_of hA ?_
     simp only [go_sem,ea,w1,Int.natCast_nonneg,Int.toNat_natCast,hget,hrA,g1,decide_false]
     exact ⟨m - 1,by omega,i + 1,by omega,by rw [e1,hs]; rfl⟩
    | cons z zs =>
     rw [List.cons_append] at hget
     have ea : ∀ s c x,avApp 5 40 [] 49 s c (.sl (.own [49]) 5 (z :: zs)) (.sl (.own [48]) 5 [AV.agg x]) = _:= fun s c x => avApp_own (d:= 49) (s:= s) (c:= c) 5 40 [] [49] (z :: zs) [AV.agg x] (.own [48]) (by simp at hlen ⊢; omega) (by decide) rfl
     simp only [go_sem,List.length_map,f1,decide_true,rowO_cons,w1,w2,Int.natCast_nonneg,Int.toNat_natCast,List.getElem?_map,hx,Option.map_some,hrI,iI]
     refine callX_of hNum ?_
     simp only [go_sem,rowO_cons,w1,w2]
     refine callX_of hA ?_
     simp only [go_sem,ea,w1,Int.natCast_nonneg,Int.toNat_natCast,hget,hrA,g1,decide_false]
     exact ⟨m - 1,by omega,i + 1,by omega,by rw [e1,hs]; rfl⟩
  ·have f1 : ((i : Int) < (l.length : Int)) = False:= eq_false (by omega)
   have ei : i = n + 1:= by omega
   subst ei
   have hRl : ((leastL f (n + 1)).map avRoute).length = n + 1:= by rw [List.length_map,leastL_len]
   have en : rowO [49] 5 ((leastL f (n + 1)).map avRoute) = .sl (.own [49]) 5 ((leastL f (n + 1)).map avRoute):= rowO_ne (by
    intro e
    rw [e] at hRl
    simp at hRl)
   have hget : ((leastL f (n + 1)).map avRoute)[firstL f (n + 1)]? = some (avRoute (leastR f (firstL f (n + 1)))):= by
    rw [List.getElem?_map,leastL_get f (by omega)]
    rfl
   have er2 : ∀ i,avRoute (leastR f i) = .agg [.lit (.int .i64 0),.lit (.int .u32 335544320),.lit (.int .i64 8),.lit (.int .u32 ((addrL 1 (50 + i) : Nat) : Int)),.lit (.int .i64 (f i))]:= fun i => rfl
   have erl : avRoute lsL = .agg [.lit (.int .i64 0),.lit (.int .u32 335544320),.lit (.int .i64 9),.lit (.int .u32 ((addrL 0 70 : Nat) : Int)),.lit (.int .i64 900)]:= rfl
   rw [er2] at hget
   rw [en]
   have w2 : IntKind.i64.wrap (50 + ((firstL f (n + 1) : Nat) : Int)) = ((50 + firstL f (n + 1) : Nat) : Int):= by
    rw [show 50 + ((firstL f (n + 1) : Nat) : Int) = ((50 + firstL f (n + 1) : Nat) : Int) by omega]
    exact wrap_nat (50 + firstL f (n + 1)) (by omega)
   have hAq:= C_nAddrG 1 (50 + firstL f (n + 1)) (by decide) (by omega)
   have hA70:= C_nAddrG 0 70 (by decide) (by decide)
   have hN1:= hN true
   have hN0:= hN false
   have hL1:= hL true
   have hL0:= hL false
   have hR1:= hR true
   have hR0:= hR false
   rw [look2] at hL1
   rw [look1] at hL0
   rw [rou1] at hR1
   have e9 : ∀ x : NRo,[x].map avRoute = [avRoute x]:= fun _ => rfl
   rw [if_pos rfl,List.map_append,e9,erl] at hN1
   simp only [Bool.false_eq_true,if_false,List.append_nil] at hN0
   have hS:= C_SameInts [((n + 1 : Nat) : Int)] [((n + 1 : Nat) : Int)] (by simp)
   simp only [decide_true,iI,List.map_cons,List.map_nil] at hS
   simp only [avI,avU,lookV,wayV,List.map_cons,List.map_nil] at hL1 hL0 hR1 hA70 hAq
   have hRl0 : ((rouW (leastW (n + 1) f false) 0 335544325).map avI).length = n + 1:= by rw [List.length_map]; exact rou2
   generalize (rouW (leastW (n + 1) f false) 0 335544325).map avI = RR at *
   generalize topoV (leastW (n + 1) f true) = T1 at *
   generalize topoV (leastW (n + 1) f false) = T0 at *
   generalize (leastL f (n + 1)).map avRoute = R at *
   generalize firstL f (n + 1) = q at *
   simp only [go_sem,List.length_map,f1,decide_false]
   refine callX_of (C_Number b 2 (by decide) (by decide)) ?_
   have hb : b % 2 = 0 ∨ b % 2 = 1:= by omega
   have ea : ∀ s c x,avApp 5 40 [] 70 s c (.sl (.own [49]) 5 R) (.sl (.own [69]) 5 [AV.agg x]) = _:= fun s c x => avApp_own (d:= 70) (s:= s) (c:= c) 5 40 [] [49] R [AV.agg x] (.own [69]) (by simp [hRl]; omega) (by decide) rfl
   have hrA:= fun x => avRow_some 5 (.own [49]) (AV.agg x) rfl
   rcases hb with hb | hb
   ·have kb : ((0 : Int) == 1) = false:= rfl
    have k1 : (((1 : Nat) : Int) == 1) = true:= rfl
    rw [hb]
    simp only [go_sem,kb]
    refine callX_of hN0 ?_
    simp only [go_sem]
    refine callX_of hL0 ?_
    simp only [go_sem]
    refine callX_of hR0 ?_
    simp only [go_sem,kb,k1,w2]
    refine callX_of hAq ?_
    have k2 : ((((n + 1 : Nat) : Int)) == ((n + 1 : Nat) : Int)) = true:= by simp
    simp only [go_sem,kb,k1,BEq.rfl,Int.natCast_nonneg,Int.toNat_natCast,hget,hrA,hRl0,List.length_map,hn,k2]
   ·have kb : ((1 : Int) == 1) = true:= rfl
    have k1 : (((0 : Nat) : Int) == 0) = true:= rfl
    have k3 : ((900 : Int) == 900) = true:= rfl
    rw [hb]
    simp only [go_sem,kb]
    refine callX_of hA70 ?_
    simp only [go_sem,ea]
    refine callX_of hN1 ?_
    simp only [go_sem]
    refine callX_of hL1 ?_
    simp only [go_sem]
    refine callX_of hR1 ?_
    simp only [go_sem,kb,k1]
    refine callX_of hA70 ?_
    simp only [go_sem,kb,k1,k3,BEq.rfl,List.length_map,hn]
    refine callX_of hS ?_
    simp only [go_sem]
end Go.Proofs.YtjceingdmfogeaaDoor.VL
end

section
set_option maxHeartbeats 4000000
namespace Go.Proofs.YtjceingdmfogeaaDoor.VL
open Go.RowKit Go.Proofs
theorem ring_shl : ∀ i,i < 30 → IntKind.wrap .u32 (IntKind.wrap .u32 ((i : Nat) : Int) * 2 ^ 24) = ((i * 16777216 : Nat) : Int) ∧ IntKind.wrap .u32 (((i * 16777216 : Nat) : Int) + 1) = ((i * 16777216 + 1 : Nat) : Int):= by decide +kernel
theorem C_RibRings (a : Int) (b : Nat) (hb : b < 4294967296) : AC Tryd.prog f_q5 [.lit (.int .i64 a),.lit (.int .u32 (b : Nat))] (.lit (.bool true)):= by
 refine ac_q5 ?_ (Nat.le_add_left 2 _)
 simp only [go_sem,c_q5]
 refine callX_of C_first9 ?_
 simp only [go_sem]
 refine callX_of (C_Number a 6 (by decide) (by decide)) ?_
 obtain ⟨n,hn,hn6⟩ : ∃ n : Nat,a % 6 = (n : Int) ∧ n < 6:= ⟨(a % 6).toNat,by omega,by omega⟩
 have hw:= wrap_succ n (by omega)
 rw [hn]
 have hv:= ring_v n hn6
 have hok:= ring_ok n hn6
 have hf:= vfit hv
 have hLn:= C_Line 1 0 (by decide) (by decide) (by decide)
 have hN:= C_New (ringW (n + 1)) hok hf hv
 have hL:= C_Look (ringW (n + 1)) hok hf hv 0 (335544320 + b % 1000) (by omega)
 have hl1:= ring_look n hn6 (b % 1000) (Nat.mod_lt _ (by decide))
 have hl2:= ring_99 n hn6
 have hL9:= C_Look (ringW (n + 1)) hok hf hv 0 1660944384 (by decide)
 have hC:= C_Connected (ringW (n + 1)) hok hf hv 0 (addrL 1 9) (by decide)
 rw [hl2.2] at hC
 have hA:= C_nAddr 1 9 (by decide) (by decide)
 rw [ring_net] at hN
 rw [net_line1] at hLn
 unfold ringB at hl1
 cases hq1 : lookN (ringW (n + 1)) 0 6 (335544320 + b % 1000) with
 | some q => rw [hq1] at hl1; cases hl1
 | none =>
 cases hq2 : lookN (ringW (n + 1)) 0 6 1660944384 with
 | some q => rw [hq2] at hl2; exact absurd hl2.1 (by simp)
 | none =>
 rw [hq1] at hL
 rw [hq2] at hL9
 have tm : (b : Int).tmod 1000 = ((b % 1000 : Nat) : Int):= by rw [Int.tmod_eq_emod_of_nonneg (by omega)]; omega
 have wm : IntKind.wrap .u32 (335544320 + ((b % 1000 : Nat) : Int)) = ((335544320 + b % 1000 : Nat) : Int):= by
  have:= IntKind.wrap_u32 (335544320 + ((b % 1000 : Nat) : Int))
  omega
 have k9 : ((1000 : Int) == 0) = false:= rfl
 simp only [avI,avU,lookV,way0] at hLn hL hL9 hA hC
 generalize (rtrs 1).map avRouter = A1 at *
 generalize (links 2).map avLink = A2 at *
 generalize (prts 1).map avPort = A3 at *
 generalize avRange ⟨3758096384,4,addrL 0 1⟩ = A5 at *
 generalize topoV (ringW (n + 1)) = T at *
 simp only [go_sem,hw]
 refine callX_of hLn ?_
 simp only [go_sem]
 refine aw_loop (fun m E => ∃ i : Nat,i + m = n + 1 ∧ E = mkE [(0,.lit (.int .i64 ((n + 1 : Nat) : Int))),(1,.lit (.int .u32 (b : Nat))),(5,.lit (.bool true)),(6,.lp 6 0),(7,.lit (.int .i64 (i : Nat)))] [(6,[.sl .none 2 A1,.sl .none 3 A2,.sl .none 3 A3,rowO [46] 5 ((ringL (n + 1) i).map avRoute),.sl .none 3 [A5],.sl .none 3 [],.sl .none 4 []])]) (n + 1) ?_ ?_
 ·exact ⟨0,by omega,rfl⟩
 ·rintro m _ ⟨i,him,rfl⟩
  by_cases hi : i < n + 1
  ·have f1 : ((i : Int) < ((n + 1 : Nat) : Int)) = True:= eq_true (by omega)
   have w1:= wrap_succ i (by omega)
   have w2 : IntKind.i64.wrap (20 + (i : Int)) = ((20 + i : Nat) : Int):= by
    rw [show 20 + (i : Int) = ((20 + i : Nat) : Int) by omega]
    exact wrap_nat (20 + i) (by omega)
   obtain ⟨j,hj,hjl⟩ : ∃ j : Nat,(i + 1) % (n + 1) = j ∧ j < 6:= ⟨_,rfl,by have:= Nat.mod_lt (i + 1) (show 0 < n + 1 by omega); omega⟩
   have tn : ((i + 1 : Nat) : Int).tmod ((n + 1 : Nat) : Int) = (j : Int):= by
    rw [Int.tmod_eq_emod_of_nonneg (by omega),← hj]
    rfl
   have k0 : (((n + 1 : Nat) : Int) == 0) = false:= by simp; omega
   have w3 : IntKind.i64.wrap (20 + (j : Int)) = ((20 + j : Nat) : Int):= by
    rw [show 20 + (j : Int) = ((20 + j : Nat) : Int) by omega]
    exact wrap_nat (20 + j) (by omega)
   obtain ⟨b1,_⟩:= ring_shl (20 + i) (by omega)
   obtain ⟨b2,b3⟩:= ring_shl (20 + j) (by omega)
   have e1 : (ringL (n + 1) (i + 1)).map avRoute = (ringL (n + 1) i).map avRoute ++ [avRoute (ringR (n + 1) i)]:= by rw [ringL_succ,List.map_append]; rfl
   have hlen : ((ringL (n + 1) i).map avRoute).length ≤ 1000:= by rw [List.length_map,ringL_len]; omega
   have sh : ∀ x,avBin .shl 45 (.lit (.int .u32 x)) (.lit (.int .u64 24)) = some (.lit (.int .u32 (IntKind.wrap .u32 (x * 2 ^ 24)))):= fun x => avBin_shl 45 .u32 .u64 x 24 (by decide) (by decide)
   have er : avRoute (ringR (n + 1) i) = .agg [.lit (.int .i64 0),.lit (.int .u32 (((20 + i) * 16777216 : Nat) : Int)),.lit (.int .i64 8),.lit (.int .u32 (((20 + j) * 16777216 + 1 : Nat) : Int)),.lit (.int .i64 0)]:= by
    simp only [ringR,avRoute,avU,hj]
   generalize (ringL (n + 1) i).map avRoute = R at *
   cases R with
   | nil =>
    have ea : ∀ s c x,avApp 5 40 [] 46 s c (.sl .nil 0 []) (.sl (.own [45]) 5 [AV.agg x]) = _:= fun s c x => avApp_nil (d:= 46) (s:= s) (c:= c) 5 40 0 [] [] [AV.agg x] (.own [45]) (by simp) (by decide)
    simp only [go_sem,f1,decide_true,rowO_nil,w1,w2,k0,tn,w3,sh,b1,b2,b3,ea]
    exact ⟨m - 1,by omega,i + 1,by omega,by rw [e1,er]; rfl⟩
   | cons z zs =>
    have ea : ∀ s c x,avApp 5 40 [] 46 s c (.sl (.own [46]) 5 (z :: zs)) (.sl (.own [45]) 5 [AV.agg x]) = _:= fun s c x => avApp_own (d:= 46) (s:= s) (c:= c) 5 40 [] [46] (z :: zs) [AV.agg x] (.own [45]) (by simp at hlen ⊢; omega) (by decide) rfl
    simp only [go_sem,f1,decide_true,rowO_cons,w1,w2,k0,tn,w3,sh,b1,b2,b3,ea]
    exact ⟨m - 1,by omega,i + 1,by omega,by rw [e1,er]; rfl⟩
  ·have f1 : ((i : Int) < ((n + 1 : Nat) : Int)) = False:= eq_false (by omega)
   have ei : i = n + 1:= by omega
   subst ei
   have en : rowO [46] 5 ((ringL (n + 1) (n + 1)).map avRoute) = .sl (.own [46]) 5 ((ringL (n + 1) (n + 1)).map avRoute):= rowO_ne (by
    intro e
    have:= congrArg List.length e
    rw [List.length_map,ringL_len] at this
    simp at this)
   rw [en]
   generalize (ringL (n + 1) (n + 1)).map avRoute = R at *
   simp only [go_sem,f1,decide_false]
   refine callX_of hN ?_
   simp only [go_sem,k9,tm,wm]
   refine callX_of hL ?_
   simp only [go_sem]
   refine callX_of hL9 ?_
   simp only [go_sem]
   refine callX_of hA ?_
   simp only [go_sem]
   refine callX_of hC ?_
   have g1 : ((0 : Int) ≤ 1) = True:= eq_true (by decide)
   have g2 : con0 1 = 1:= rfl
   have g3 : ((1 : Int) == 1) = true:= rfl
   simp only [go_sem,g1,g2,g3,decide_true]
end Go.Proofs.YtjceingdmfogeaaDoor.VL
end

