import Derived.Sort.LotD1
import Derived.Sort.LotD5
import Derived.Laws.Bits64
import Derived.Laws.Bits64b
import Derived.Sort.Walk13a
import Derived.Test.YtnndbbmidoidpaaGreatDoorGa11
set_option linter.unusedVariables false
set_option linter.unusedSimpArgs false
section
set_option maxHeartbeats 4000000
namespace Go.Proofs.YtnndbbmidoidpaaGreatDoor.VL
open Go.RowKit Go.Proofs Go.Sort
abbrev sC (d : Array Int) (tl : List AV) (sw : Nat) : List (Nat × List AV):= [(100000,dC d tl),(100001,[iI sw])]
abbrev SM : List (Nat × Nat):= [(100000,100000),(100001,100001)]
theorem retC_sC {s : List (Nat × AV)} {d : Array Int} {tl : List AV} (ht : Tl tl) (sw : Nat) : retC (mkE s (sC d tl sw)) [100000,100001] = some (sC d tl sw):= by
 have e : ∀ C,retv C false 8 (iI sw) = some (iI sw):= fun _ => rfl
 simp only [retC,mapO_cons,mapO_nil,mkE_c,getC_cons,↓reduceIte,ret_dC _ d ht,catO_some,show ((100001 : Nat) = 100000) = False from by simp,e]
theorem back_sC (s : List (Nat × AV)) (x y : List AV) (p q : List AV) : backC SM [(100000,y),(100001,q)] (mkE s [(100000,x),(100001,p)]) = mkE s [(100000,y),(100001,q)]:= by
 simp only [backC,mkE]
 congr 1
 funext c
 by_cases h : c = 100000
 ·subst h; rfl
 ·by_cases h2 : c = 100001
  ·subst h2; rfl
  ·simp [lentAs,getC,h,h2]
theorem callS_of {P : Program} {dst : Option Nat} {os : List AOper} {s : List (Nat × AV)} {K : Env → Prop} {f : FuncId} {raw al : List AV} {args : Option (List AV)} {r : AV} {d : Array Int} {tl : List AV} {sw sw' : Nat} (ht : Tl tl)
  (hl : mapO (lowerM SM (getC (sC d tl sw)) 8) raw = some al) (h : AM P f al (sC d tl sw) r (sC d tl sw'))
  (hk : awX false P os ((mkE s (sC d tl sw')).putO dst (retag (dst.getD 0) (unlend SM r))) K) : callX false P dst os s (sC d tl sw) K f raw args:= by
 refine callM_of SM rfl hl ?_ h ?_
 ·have e : closeV (iI sw) = some (iI sw):= rfl
  show mapO _ SM = _
  simp only [SM,mapO_cons,mapO_nil,getC_cons,↓reduceIte,close_dC d ht,catO_some,show ((100001 : Nat) = 100000) = False from by simp,e]
 ·rw [back_sC]
  exact hk
theorem C_order2 {d : Array Int} {a b sw cap : Nat} {tl : List AV} (ht : Tl tl) (ha : a < d.size) (hb : b < d.size) (hsw : sw ≤ 1000) :
  AM Tryz.prog f_q216 [dS d.size cap,iI a,iI b,.lp 100001 0] (sC d tl sw) (.tup [iI (order2 ltInt d a b sw).1,iI (order2 ltInt d a b sw).2.1]) (sC d tl (order2 ltInt d a b sw).2.2):= by
 refine am_q216 ?_ (by simp) (Nat.le_add_left 4 _)
 have b1 : (a : Int) < (d.size : Int):= by omega
 have b2 : (b : Int) < (d.size : Int):= by omega
 simp only [go_sem,env0M_mk,c_q216,List.map_cons,List.map_nil,b1,b2,dC_ld tl ha,dC_ld tl hb,Int.natCast_nonneg,Int.toNat_natCast,Nat.zero_add,Nat.mul_one]
 refine callX_of (C_Less d[b]! d[a]!) ?_
 cases h : ltInt d[b]! d[a]! with
 | true =>
  have e : order2 ltInt d a b sw = (b,a,sw + 1):= by rw [order2,if_pos h]
  have r1:= retC_sC (s:= [(0,dS d.size cap),(1,iI a),(2,iI b),(3,.lp 100001 0),(8,iI b),(9,iI a)]) (d:= d) ht (sw + 1)
  simp only [go_sem,e,iwn (sw + 1) (by omega : (sw : Int) + 1 = ((sw + 1 : Nat) : Int)) (by omega),endM_n,endM_r]
  exact retC_sC ht (sw + 1)
 | false =>
  have e : order2 ltInt d a b sw = (a,b,sw):= by rw [order2,if_neg (by simp [h])]
  simp only [go_sem,e,endM_n,endM_r]
  exact retC_sC ht sw
theorem order2_lt {d : Array Int} {a b n : Nat} (sw : Nat) (ha : a < n) (hb : b < n) : (order2 ltInt d a b sw).1 < n ∧ (order2 ltInt d a b sw).2.1 < n ∧ (order2 ltInt d a b sw).2.2 ≤ sw + 1:= by
 rw [order2]
 split
 ·exact ⟨hb,ha,Nat.le_refl _⟩
 ·exact ⟨ha,hb,Nat.le_succ _⟩
theorem C_median {d : Array Int} {a b c sw cap : Nat} {tl : List AV} (ht : Tl tl) (ha : a < d.size) (hb : b < d.size) (hc : c < d.size) (hsw : sw ≤ 900) :
  AM Tryz.prog f_q199 [dS d.size cap,iI a,iI b,iI c,.lp 100001 0] (sC d tl sw) (iI (median ltInt d a b c sw).1) (sC d tl (median ltInt d a b c sw).2):= by
 refine am_q199 ?_ (by simp) (Nat.le_add_left 5 _)
 obtain ⟨h1,h2,h3⟩:= order2_lt (d:= d) sw ha hb
 have c1:= C_order2 (cap:= cap) ht ha hb (show sw ≤ 1000 by omega)
 generalize e1 : order2 ltInt d a b sw = r1 at h1 h2 h3 c1
 obtain ⟨h4,h5,h6⟩:= order2_lt (d:= d) r1.2.2 h2 hc
 have c2:= C_order2 (cap:= cap) ht h2 hc (show r1.2.2 ≤ 1000 by omega)
 generalize e2 : order2 ltInt d r1.2.1 c r1.2.2 = r2 at h4 h5 h6 c2
 have c3:= C_order2 (cap:= cap) ht h1 h4 (show r2.2.2 ≤ 1000 by omega)
 have em : median ltInt d a b c sw = ((order2 ltInt d r1.1 r2.1 r2.2.2).2.1,(order2 ltInt d r1.1 r2.1 r2.2.2).2.2):= by
  rw [median,e1,e2]
 rw [em]
 generalize order2 ltInt d r1.1 r2.1 r2.2.2 = r3 at c3
 simp only [go_sem,env0M_mk,c_q199,List.map_cons,List.map_nil]
 refine callS_of ht rfl c1 ?_
 simp only [go_sem]
 refine callS_of ht rfl c2 ?_
 simp only [go_sem]
 refine callS_of ht rfl c3 ?_
 simp only [go_sem,endM_n,endM_r]
 exact retC_sC ht _
theorem median_lt {d : Array Int} {a b c n : Nat} (sw : Nat) (ha : a < n) (hb : b < n) (hc : c < n) : (median ltInt d a b c sw).1 < n ∧ (median ltInt d a b c sw).2 ≤ sw + 3:= by
 obtain ⟨h1,h2,h3⟩:= order2_lt (d:= d) sw ha hb
 obtain ⟨h4,h5,h6⟩:= order2_lt (d:= d) (order2 ltInt d a b sw).2.2 h2 hc
 obtain ⟨h7,h8,h9⟩:= order2_lt (d:= d) (order2 ltInt d (order2 ltInt d a b sw).2.1 c (order2 ltInt d a b sw).2.2).2.2 h1 h4
 simp only [median]
 exact ⟨h8,by omega⟩
theorem C_medianAdjacent {d : Array Int} {a sw cap : Nat} {tl : List AV} (ht : Tl tl) (h0 : 1 ≤ a) (ha : a + 1 < d.size) (hd : d.size ≤ 255) (hsw : sw ≤ 900) :
  AM Tryz.prog f_q198 [dS d.size cap,iI a,.lp 100001 0] (sC d tl sw) (iI (medianAdjacent ltInt d a sw).1) (sC d tl (medianAdjacent ltInt d a sw).2):= by
 refine am_q198 ?_ (by simp) (Nat.le_add_left 3 _)
 simp only [go_sem,env0M_mk,c_q198,List.map_cons,List.map_nil,iwn (a - 1) (by omega : (a : Int) - 1 = ((a - 1 : Nat) : Int)) (by omega),iwn (a + 1) (by omega : (a : Int) + 1 = ((a + 1 : Nat) : Int)) (by omega)]
 refine callS_of ht rfl (C_median (cap:= cap) (a:= a - 1) (b:= a) (c:= a + 1) ht (by omega) (by omega) (by omega) hsw) ?_
 simp only [go_sem,endM_n,endM_r]
 exact ⟨rfl,retC_sC ht _⟩
def hintI : Hint → Int
 | .unknown => 0
 | .increasing => 1
 | .decreasing => 2
abbrev PM : List (Nat × Nat):= [(100000,100000),(9,100001)]
theorem back_pC (s : List (Nat × AV)) (x y : List AV) (p q : List AV) : backC PM [(100000,y),(100001,q)] (mkE s [(9,p),(100000,x)]) = mkE s [(9,q),(100000,y)]:= by
 simp only [backC,mkE]
 congr 1
 funext c
 by_cases h : c = 100000
 ·subst h; rfl
 ·by_cases h2 : c = 9
  ·subst h2; rfl
  ·simp [lentAs,getC,h,h2]
theorem callP_of {P : Program} {dst : Option Nat} {os : List AOper} {s : List (Nat × AV)} {K : Env → Prop} {f : FuncId} {raw al : List AV} {args : Option (List AV)} {r : AV} {d : Array Int} {tl : List AV} {sw sw' : Nat} (ht : Tl tl)
  (hl : mapO (lowerM PM (getC [(9,[iI sw]),(100000,dC d tl)]) 8) raw = some al) (h : AM P f al (sC d tl sw) r (sC d tl sw'))
  (hk : awX false P os ((mkE s [(9,[iI sw']),(100000,dC d tl)]).putO dst (retag (dst.getD 0) (unlend PM r))) K) : callX false P dst os s [(9,[iI sw]),(100000,dC d tl)] K f raw args:= by
 refine callM_of PM rfl hl ?_ h ?_
 ·have e : closeV (iI sw) = some (iI sw):= rfl
  show mapO _ PM = _
  simp only [PM,mapO_cons,mapO_nil,getC_cons,↓reduceIte,close_dC d ht,catO_some,show ((100000 : Nat) = 9) = False from by simp,e]
 ·rw [back_pC]
  exact hk
theorem retC_pC {s : List (Nat × AV)} {d : Array Int} {tl : List AV} (ht : Tl tl) (x : List AV) : retC (mkE s [(9,x),(100000,dC d tl)]) [100000] = some [(100000,dC d tl)]:= by
 simp only [retC,mapO_cons,mapO_nil,mkE_c,getC_cons,↓reduceIte,ret_dC _ d ht,catO_some,show ((100000 : Nat) = 9) = False from by simp]
theorem C_choosePivot {d : Array Int} {a b cap : Nat} {tl : List AV} (ht : Tl tl) (hab : a + 12 < b) (hb : b ≤ d.size) (hd : d.size ≤ 255) :
  AM Tryz.prog f_q157 [dS d.size cap,iI a,iI b] [(100000,dC d tl)] (.tup [iI (choosePivot ltInt d a b).1,.lit (.int .i64 (hintI (choosePivot ltInt d a b).2))]) [(100000,dC d tl)]:= by
 refine am_q157 ?_ (by simp) (Nat.le_add_left 3 _)
 have wl:= iwn (b - a) (by omega : (b : Int) - (a : Int) = ((b - a : Nat) : Int)) (by omega)
 have wq : ((b - a : Nat) : Int).tdiv 4 = (((b - a) / 4 : Nat) : Int):= by
  rw [Int.tdiv_eq_ediv_of_nonneg (by omega)]
  omega
 have w2 : IntKind.i64.wrap (((b - a) / 4 : Nat) : Int) = (((b - a) / 4 : Nat) : Int):= iwn _ rfl (by omega)
 generalize hl : (b - a) / 4 = q at wq w2
 have hq : 3 ≤ q ∧ q ≤ 63 ∧ a + q * 4 ≤ b:= by omega
 have m1:= iwn (q * 1) (by omega : (q : Int) * 1 = ((q * 1 : Nat) : Int)) (by omega)
 have m2:= iwn (q * 2) (by omega : (q : Int) * 2 = ((q * 2 : Nat) : Int)) (by omega)
 have m3:= iwn (q * 3) (by omega : (q : Int) * 3 = ((q * 3 : Nat) : Int)) (by omega)
 have a1:= iwn (a + q * 1) (by omega : (a : Int) + ((q * 1 : Nat) : Int) = ((a + q * 1 : Nat) : Int)) (by omega)
 have a2:= iwn (a + q * 2) (by omega : (a : Int) + ((q * 2 : Nat) : Int) = ((a + q * 2 : Nat) : Int)) (by omega)
 have a3:= iwn (a + q * 3) (by omega : (a : Int) + ((q * 3 : Nat) : Int) = ((a + q * 3 : Nat) : Int)) (by omega)
 have g1 : ((8 : Int) ≤ ((b - a : Nat) : Int)) = True:= eq_true (by omega)
 simp only [go_sem,env0M_mk,c_q157,List.map_cons,List.map_nil,wl,wq,w2,m1,m2,m3,a1,a2,a3,g1,decide_true,show ((4 : Int) == 0) = false from rfl]
 have fin : ∀ (p sw : Nat),choosePivot ltInt d a b = (p,if sw = 0 then .increasing else if sw = 12 then .decreasing else .unknown) →
   (sw = 0 ∧ choosePivot ltInt d a b = (p,.increasing)) ∨ (sw ≠ 0 ∧ sw = 12 ∧ choosePivot ltInt d a b = (p,.decreasing)) ∨ (sw ≠ 0 ∧ sw ≠ 12 ∧ choosePivot ltInt d a b = (p,.unknown)):= by
  intro p sw e
  by_cases h : sw = 0
  ·exact .inl ⟨h,by rw [e,if_pos h]⟩
  ·by_cases h2 : sw = 12
   ·exact .inr (.inl ⟨h,h2,by rw [e,if_neg h,if_pos h2]⟩)
   ·exact .inr (.inr ⟨h,h2,by rw [e,if_neg h,if_neg h2]⟩)
 by_cases h50 : 50 ≤ b - a
 ·have g2 : ((50 : Int) ≤ ((b - a : Nat) : Int)) = True:= eq_true (by omega)
  have k1:= C_medianAdjacent (d:= d) (cap:= cap) (a:= a + q * 1) (sw:= 0) ht (by omega) (by omega) hd (by omega)
  have n1:= median_lt (d:= d) (a:= a + q * 1 - 1) (b:= a + q * 1) (c:= a + q * 1 + 1) (n:= d.size) 0 (by omega) (by omega) (by omega)
  rw [show median ltInt d (a + q * 1 - 1) (a + q * 1) (a + q * 1 + 1) 0 = medianAdjacent ltInt d (a + q * 1) 0 from rfl] at n1
  generalize e1 : medianAdjacent ltInt d (a + q * 1) 0 = ri at k1 n1
  have k2:= C_medianAdjacent (d:= d) (cap:= cap) (a:= a + q * 2) (sw:= ri.2) ht (by omega) (by omega) hd (by omega)
  have n2:= median_lt (d:= d) (a:= a + q * 2 - 1) (b:= a + q * 2) (c:= a + q * 2 + 1) (n:= d.size) ri.2 (by omega) (by omega) (by omega)
  rw [show median ltInt d (a + q * 2 - 1) (a + q * 2) (a + q * 2 + 1) ri.2 = medianAdjacent ltInt d (a + q * 2) ri.2 from rfl] at n2
  generalize e2 : medianAdjacent ltInt d (a + q * 2) ri.2 = rj at k2 n2
  have k3:= C_medianAdjacent (d:= d) (cap:= cap) (a:= a + q * 3) (sw:= rj.2) ht (by omega) (by omega) hd (by omega)
  have n3:= median_lt (d:= d) (a:= a + q * 3 - 1) (b:= a + q * 3) (c:= a + q * 3 + 1) (n:= d.size) rj.2 (by omega) (by omega) (by omega)
  rw [show median ltInt d (a + q * 3 - 1) (a + q * 3) (a + q * 3 + 1) rj.2 = medianAdjacent ltInt d (a + q * 3) rj.2 from rfl] at n3
  generalize e3 : medianAdjacent ltInt d (a + q * 3) rj.2 = rk at k3 n3
  have k4:= C_median (d:= d) (cap:= cap) (a:= ri.1) (b:= rj.1) (c:= rk.1) (sw:= rk.2) ht n1.1 n2.1 n3.1 (by omega)
  have hcp : choosePivot ltInt d a b = ((median ltInt d ri.1 rj.1 rk.1 rk.2).1,if (median ltInt d ri.1 rj.1 rk.1 rk.2).2 = 0 then .increasing else if (median ltInt d ri.1 rj.1 rk.1 rk.2).2 = 12 then .decreasing else .unknown):= by
   simp only [choosePivot,hl,e1,e2,e3]
   rw [if_pos (by omega),if_pos (by omega)]
  generalize median ltInt d ri.1 rj.1 rk.1 rk.2 = r at k4 hcp
  simp only [go_sem,g2,decide_true]
  refine callP_of (sw:= 0) ht rfl k1 ?_
  simp only [go_sem]
  refine callP_of ht rfl k2 ?_
  simp only [go_sem]
  refine callP_of ht rfl k3 ?_
  simp only [go_sem]
  refine callP_of ht rfl k4 ?_
  rcases fin r.1 r.2 hcp with ⟨h,e⟩ | ⟨h,h2,e⟩ | ⟨h,h2,e⟩
  ·have f1 : (((r.2 : Nat) : Int) == 0) = true:= by simp [h]
   simp only [go_sem,f1,endM_n,endM_r,e,hintI,retC_pC ht,and_self]
  ·have f1 : (((r.2 : Nat) : Int) == 0) = false:= by simp [h]
   have f2 : (((r.2 : Nat) : Int) == 12) = true:= by simp [h2]
   simp only [go_sem,f1,f2,endM_n,endM_r,e,hintI,retC_pC ht,and_self]
  ·have f1 : (((r.2 : Nat) : Int) == 0) = false:= by simp [h]
   have f2 : (((r.2 : Nat) : Int) == 12) = false:= by simp; omega
   simp only [go_sem,f1,f2,endM_n,endM_r,e,hintI,retC_pC ht,and_self]
 ·have g2 : ((50 : Int) ≤ ((b - a : Nat) : Int)) = False:= eq_false (by omega)
  have k4:= C_median (d:= d) (cap:= cap) (a:= a + q * 1) (b:= a + q * 2) (c:= a + q * 3) (sw:= 0) ht (by omega) (by omega) (by omega) (by omega)
  have hcp : choosePivot ltInt d a b = ((median ltInt d (a + q * 1) (a + q * 2) (a + q * 3) 0).1,if (median ltInt d (a + q * 1) (a + q * 2) (a + q * 3) 0).2 = 0 then .increasing else if (median ltInt d (a + q * 1) (a + q * 2) (a + q * 3) 0).2 = 12 then .decreasing else .unknown):= by
   simp only [choosePivot,hl]
   rw [if_pos (by omega),if_neg (by omega)]
  generalize median ltInt d (a + q * 1) (a + q * 2) (a + q * 3) 0 = r at k4 hcp
  simp only [go_sem,g2,decide_false]
  refine callP_of (sw:= 0) ht rfl k4 ?_
  rcases fin r.1 r.2 hcp with ⟨h,e⟩ | ⟨h,h2,e⟩ | ⟨h,h2,e⟩
  ·have f1 : (((r.2 : Nat) : Int) == 0) = true:= by simp [h]
   simp only [go_sem,f1,endM_n,endM_r,e,hintI,retC_pC ht,and_self]
  ·have f1 : (((r.2 : Nat) : Int) == 0) = false:= by simp [h]
   have f2 : (((r.2 : Nat) : Int) == 12) = true:= by simp [h2]
   simp only [go_sem,f1,f2,endM_n,endM_r,e,hintI,retC_pC ht,and_self]
  ·have f1 : (((r.2 : Nat) : Int) == 0) = false:= by simp [h]
   have f2 : (((r.2 : Nat) : Int) == 12) = false:= by simp; omega
   simp only [go_sem,f1,f2,endM_n,endM_r,e,hintI,retC_pC ht,and_self]
end Go.Proofs.YtnndbbmidoidpaaGreatDoor.VL
end

section
set_option maxHeartbeats 4000000
namespace Go.Proofs.YtnndbbmidoidpaaGreatDoor.VL
open Go.RowKit Go.Proofs Go.Sort
set_option maxRecDepth 100000 in
theorem lenTab : ∀ n,n < 256 → ((⟨#[0,1,2,2,3,3,3,3,4,4,4,4,4,4,4,4,5,5,5,5,5,5,5,5,5,5,5,5,5,5,5,5,6,6,6,6,6,6,6,6,6,6,6,6,6,6,6,6,6,6,6,6,6,6,6,6,6,6,6,6,6,6,6,6,7,7,7,7,7,7,7,7,7,7,7,7,7,7,7,7,7,7,7,7,7,7,7,7,7,7,7,7,7,7,7,7,7,7,7,7,7,7,7,7,7,7,7,7,7,7,7,7,7,7,7,7,7,7,7,7,7,7,7,7,7,7,7,7,8,8,8,8,8,8,8,8,8,8,8,8,8,8,8,8,8,8,8,8,8,8,8,8,8,8,8,8,8,8,8,8,8,8,8,8,8,8,8,8,8,8,8,8,8,8,8,8,8,8,8,8,8,8,8,8,8,8,8,8,8,8,8,8,8,8,8,8,8,8,8,8,8,8,8,8,8,8,8,8,8,8,8,8,8,8,8,8,8,8,8,8,8,8,8,8,8,8,8,8,8,8,8,8,8,8,8,8,8,8,8,8,8,8,8,8,8,8,8,8,8,8,8,8,8,8,8,8]⟩ : ByteArray)[n]?).map UInt8.toNat = some (bitsLen n):= by decide +kernel
set_option maxRecDepth 100000 in
theorem lenAt (n : Nat) (h : n < 256) : avIxs (.lit (.string ⟨#[0,1,2,2,3,3,3,3,4,4,4,4,4,4,4,4,5,5,5,5,5,5,5,5,5,5,5,5,5,5,5,5,6,6,6,6,6,6,6,6,6,6,6,6,6,6,6,6,6,6,6,6,6,6,6,6,6,6,6,6,6,6,6,6,7,7,7,7,7,7,7,7,7,7,7,7,7,7,7,7,7,7,7,7,7,7,7,7,7,7,7,7,7,7,7,7,7,7,7,7,7,7,7,7,7,7,7,7,7,7,7,7,7,7,7,7,7,7,7,7,7,7,7,7,7,7,7,7,8,8,8,8,8,8,8,8,8,8,8,8,8,8,8,8,8,8,8,8,8,8,8,8,8,8,8,8,8,8,8,8,8,8,8,8,8,8,8,8,8,8,8,8,8,8,8,8,8,8,8,8,8,8,8,8,8,8,8,8,8,8,8,8,8,8,8,8,8,8,8,8,8,8,8,8,8,8,8,8,8,8,8,8,8,8,8,8,8,8,8,8,8,8,8,8,8,8,8,8,8,8,8,8,8,8,8,8,8,8,8,8,8,8,8,8,8,8,8,8,8,8,8,8,8,8,8,8]⟩)) (.lit (.int .u8 n)) = some (.lit (.int .u8 (bitsLen n : Nat))):= by
 have hs : n < (⟨#[0,1,2,2,3,3,3,3,4,4,4,4,4,4,4,4,5,5,5,5,5,5,5,5,5,5,5,5,5,5,5,5,6,6,6,6,6,6,6,6,6,6,6,6,6,6,6,6,6,6,6,6,6,6,6,6,6,6,6,6,6,6,6,6,7,7,7,7,7,7,7,7,7,7,7,7,7,7,7,7,7,7,7,7,7,7,7,7,7,7,7,7,7,7,7,7,7,7,7,7,7,7,7,7,7,7,7,7,7,7,7,7,7,7,7,7,7,7,7,7,7,7,7,7,7,7,7,7,8,8,8,8,8,8,8,8,8,8,8,8,8,8,8,8,8,8,8,8,8,8,8,8,8,8,8,8,8,8,8,8,8,8,8,8,8,8,8,8,8,8,8,8,8,8,8,8,8,8,8,8,8,8,8,8,8,8,8,8,8,8,8,8,8,8,8,8,8,8,8,8,8,8,8,8,8,8,8,8,8,8,8,8,8,8,8,8,8,8,8,8,8,8,8,8,8,8,8,8,8,8,8,8,8,8,8,8,8,8,8,8,8,8,8,8,8,8,8,8,8,8,8,8,8,8,8,8]⟩ : ByteArray).size:= h
 rw [avIxs_at _ _ _ hs]
 have e:= lenTab n h
 rw [getElem?_pos _ n hs] at e
 simp only [Option.map_some,Option.some.injEq] at e
 rw [e]
theorem bitsLen_le8 {n : Nat} (h : n < 256) : bitsLen n ≤ 8:= (bitsLen_le_iff n 8).2 h
set_option maxRecDepth 100000 in
theorem C_Len64 {n : Nat} (h : n < 256) : AC Tryz.prog f_q164 [.lit (.int .u64 n)] (iI (bitsLen n : Nat)):= by
 refine ac_q164 ?_ (Nat.le_add_left 1 _)
 have f1 : ((4294967296 : Int) ≤ (n : Int)) = False:= eq_false (by omega)
 have f2 : ((65536 : Int) ≤ (n : Int)) = False:= eq_false (by omega)
 have f3 : ((256 : Int) ≤ (n : Int)) = False:= eq_false (by omega)
 have w1 : IntKind.u8.wrap (n : Int) = (n : Int):= by rw [IntKind.wrap_u8]; omega
 have hb:= bitsLen_le8 h
 have w2:= iwn (bitsLen n) rfl (by omega)
 simp only [go_sem,c_q164,f1,f2,f3,decide_false,w1,lenAt n h,w2,Int.zero_add]
theorem C_Len {n : Nat} (h : n < 256) : AC Tryz.prog f_q101 [.lit (.int .u64 n)] (iI (bitsLen n : Nat)):= by
 refine ac_q101 ?_ (Nat.le_add_left 1 _)
 simp only [go_sem,c_q101]
 refine callX_of (C_Len64 h) ?_
 simp only [go_sem]
theorem C_nextPow {n : Nat} (h : n < 256) : AC Tryz.prog f_q196 [iI n] (.lit (.int .u64 (1 <<< bitsLen n : Nat))):= by
 refine ac_q196 ?_ (Nat.le_add_left 1 _)
 have w1 : IntKind.u64.wrap (n : Int) = (n : Int):= by rw [IntKind.wrap_u64]; omega
 have hb:= bitsLen_le8 h
 have hp : (2 : Nat) ^ bitsLen n ≤ 2 ^ 8:= Nat.pow_le_pow_right (by decide) hb
 simp only [go_sem,c_q196,w1]
 refine callX_of (C_Len h) ?_
 have e : avBin .shl 167 (.lit (.int .u64 1)) (.lit (.int .i64 (bitsLen n : Nat))) = some (.lit (.int .u64 (1 <<< bitsLen n : Nat))):= by
  rw [avBin_shl _ _ _ _ _ (by omega) (by show ((bitsLen n : Nat) : Int) ≤ 64; omega),IntKind.wrap_u64,Nat.one_shiftLeft,Int.toNat_natCast,Int.one_mul,show ((2 : Int) ^ bitsLen n) = ((2 ^ bitsLen n : Nat) : Int) by push_cast; rfl]
  generalize (2 : Nat) ^ bitsLen n = p at hp
  congr 3
  omega
 simp only [go_sem,e]
theorem C_Next {X : Nat} (hX : X < 18446744073709551616) : AM Tryz.prog f_q197 [.lp 100000 0] [(100000,[.lit (.int .u64 X)])] (.lit (.int .u64 (xorNextN X : Nat))) [(100000,[.lit (.int .u64 (xorNextN X : Nat))])]:= by
 refine am_q197 ?_ (by simp) (Nat.le_add_left 1 _)
 obtain ⟨A,hA⟩ : ∃ A : Nat,A = X ^^^ (X * 8192 % 18446744073709551616):= ⟨_,rfl⟩
 obtain ⟨B,hB⟩ : ∃ B : Nat,B = A ^^^ (A / 128):= ⟨_,rfl⟩
 obtain ⟨C,hC⟩ : ∃ C : Nat,C = B ^^^ (B * 131072 % 18446744073709551616):= ⟨_,rfl⟩
 have lA : A < 18446744073709551616:= by rw [hA]; exact Nat.xor_lt_two_pow (n:= 64) (by omega) (by omega)
 have lB : B < 18446744073709551616:= by rw [hB]; exact Nat.xor_lt_two_pow (n:= 64) (by omega) (by omega)
 have e1 : bits .xor .u64 (X : Int) ((X * 8192 % 18446744073709551616 : Nat) : Int) = (A : Int):= by
  rw [bits_xor_u64_nat _ _ hX (by omega),hA]
 have e2 : bits .xor .u64 (A : Int) ((A / 128 : Nat) : Int) = (B : Int):= by
  rw [bits_xor_u64_nat _ _ lA (by omega),hB]
 have e3 : bits .xor .u64 (B : Int) ((B * 131072 % 18446744073709551616 : Nat) : Int) = (C : Int):= by
  rw [bits_xor_u64_nat _ _ lB (by omega),hC]
 have s1 : avBin .shl 241 (.lit (.int .u64 X)) (.lit (.int .u64 13)) = some (.lit (.int .u64 (X * 8192 % 18446744073709551616 : Nat))):= by
  rw [avBin_shl _ _ _ _ _ (by decide) (by decide),IntKind.wrap_u64]
  congr 3
 have s2 : avBin .shr 241 (.lit (.int .u64 A)) (.lit (.int .u64 7)) = some (.lit (.int .u64 (A / 128 : Nat))):= by
  rw [avBin_shr _ _ _ _ _ (by decide) (by decide)]
  congr 3
 have s3 : avBin .shl 241 (.lit (.int .u64 B)) (.lit (.int .u64 17)) = some (.lit (.int .u64 (B * 131072 % 18446744073709551616 : Nat))):= by
  rw [avBin_shl _ _ _ _ _ (by decide) (by decide),IntKind.wrap_u64]
  congr 3
 have hv : xorNextN X = C:= by unfold xorNextN; simp only []; rw [← hA,← hB,← hC]
 rw [hv]
 clear hA hB hC hv
 simp only [go_sem,env0M_mk,c_q197,List.map_cons,List.map_nil,s1,s2,s3,avBin_xor,e1,e2,e3,endM_n,endM_r]
 rfl
def bpR (a L M i0 : Nat) : Nat → Nat → UInt64 × Array Int → Array Int
 | 0,_,st => st.2
 | k + 1,t,st => bpR a L M i0 k (t + 1) (breakStep a L M st (i0 + t))
theorem bpR_eq (d : Array Int) (a b : Nat) (h8 : 8 ≤ b - a) : breakPatterns d a b = bpR a (b - a) (1 <<< bitsLen (b - a)) (a + (b - a) / 4 * 2 - 1) 3 0 (UInt64.ofNat (b - a),d):= by
 unfold breakPatterns
 simp only []
 rw [if_pos h8]
 rfl
theorem bpR_step (a L M i0 t : Nat) (r : UInt64) (d : Array Int) (o : Nat) (ht : t < 3) (ho : (if (xorNext r).toNat &&& (M - 1) ≥ L then ((xorNext r).toNat &&& (M - 1)) - L else (xorNext r).toNat &&& (M - 1)) = o) :
  bpR a L M i0 (3 - t) t (r,d) = bpR a L M i0 (3 - (t + 1)) (t + 1) (xorNext r,swp d (i0 + t) (a + o)):= by
 rw [show 3 - t = (3 - (t + 1)) + 1 by omega,bpR]
 unfold breakStep
 simp only [ho]
abbrev uU (n : Nat) : AV:= .lit (.int .u64 n)
theorem back_7 (s : List (Nat × AV)) (x y : List AV) (q : List AV) : backC [(7,100000)] [(100000,q)] (mkE s [(7,x),(100000,y)]) = mkE s [(7,q),(100000,y)]:= by
 simp only [backC,mkE]
 congr 1
 funext c
 by_cases h2 : c = 7
 ·subst h2; rfl
 ·by_cases h : c = 100000
  ·subst h; rfl
  ·simp [lentAs,getC,h,h2]
theorem call7_of {P : Program} {dst : Option Nat} {os : List AOper} {s : List (Nat × AV)} {K : Env → Prop} {f : FuncId} {raw al : List AV} {args : Option (List AV)} {r : AV} {y : List AV} {n n' : Nat}
  (hl : mapO (lowerM [(7,100000)] (getC [(7,[uU n]),(100000,y)]) 8) raw = some al) (h : AM P f al [(100000,[uU n])] r [(100000,[uU n'])])
  (hk : awX false P os ((mkE s [(7,[uU n']),(100000,y)]).putO dst (retag (dst.getD 0) (unlend [(7,100000)] r))) K) : callX false P dst os s [(7,[uU n]),(100000,y)] K f raw args:= by
 refine callM_of [(7,100000)] rfl hl rfl h ?_
 rw [back_7]
 exact hk
theorem retC_7 {s : List (Nat × AV)} {d : Array Int} {tl : List AV} (ht : Tl tl) (x : List AV) : retC (mkE s [(7,x),(100000,dC d tl)]) [100000] = some [(100000,dC d tl)]:= by
 simp only [retC,mapO_cons,mapO_nil,mkE_c,getC_cons,↓reduceIte,ret_dC _ d ht,catO_some,show ((100000 : Nat) = 7) = False from by simp]
theorem C_breakPatterns {d : Array Int} {a b cap : Nat} {tl : List AV} (ht : Tl tl) (hab : a + 12 < b) (hb : b ≤ d.size) (hd : d.size ≤ 255) :
  AM Tryz.prog f_q156 [dS d.size cap,iI a,iI b] [(100000,dC d tl)] (.tup []) [(100000,dC (breakPatterns d a b) tl)]:= by
 refine am_q156 ?_ (by simp) (Nat.le_add_left 3 _)
 rw [bpR_eq d a b (by omega)]
 have wl:= iwn (b - a) (by omega : (b : Int) - (a : Int) = ((b - a : Nat) : Int)) (by omega)
 generalize hL : b - a = L at wl
 have hNP:= C_nextPow (n:= L) (by omega)
 have hM2 : 1 <<< bitsLen L ≤ 2 * L:= by rw [Nat.one_shiftLeft]; exact two_pow_bitsLen_le (by omega)
 have hM1 : 1 ≤ 1 <<< bitsLen L:= by rw [Nat.one_shiftLeft]; exact Nat.two_pow_pos _
 generalize 1 <<< bitsLen L = M at hNP hM1 hM2
 have wq : (L : Int).tdiv 4 = ((L / 4 : Nat) : Int):= by
  rw [Int.tdiv_eq_ediv_of_nonneg (by omega)]
  omega
 have w2:= iwn (L / 4) rfl (by omega)
 have hq : 3 ≤ L / 4 ∧ L / 4 * 4 ≤ L:= by omega
 generalize L / 4 = q at wq w2 hq
 have m2:= iwn (q * 2) (by omega : (q : Int) * 2 = ((q * 2 : Nat) : Int)) (by omega)
 have a2:= iwn (a + q * 2) (by omega : (a : Int) + ((q * 2 : Nat) : Int) = ((a + q * 2 : Nat) : Int)) (by omega)
 have a3:= iwn (a + q * 2 - 1) (by omega : ((a + q * 2 : Nat) : Int) - 1 = ((a + q * 2 - 1 : Nat) : Int)) (by omega)
 have a4:= iwn (a + q * 2 + 1) (by omega : ((a + q * 2 : Nat) : Int) + 1 = ((a + q * 2 + 1 : Nat) : Int)) (by omega)
 have g1 : ((8 : Int) ≤ (L : Int)) = True:= eq_true (by omega)
 have wu : IntKind.u64.wrap (L : Int) = (L : Int):= by rw [IntKind.wrap_u64]; omega
 have wM : IntKind.u64.wrap ((M : Int) - 1) = ((M - 1 : Nat) : Int):= by rw [IntKind.wrap_u64]; omega
 simp only [go_sem,env0M_mk,c_q156,List.map_cons,List.map_nil,wl,g1,decide_true,wu]
 refine callX_of hNP ?_
 simp only [go_sem,wq,w2,m2,a2,a3,show ((4 : Int) == 0) = false from rfl]
 refine aw_loop (fun m E => ∃ (t : Nat) (r : UInt64) (x : Array Int),x.size = d.size ∧ t ≤ 3 ∧ 3 - t ≤ m ∧ bpR a L M (a + q * 2 - 1) (3 - t) t (r,x) = bpR a L M (a + q * 2 - 1) 3 0 (UInt64.ofNat L,d) ∧
  E = mkE [(0,dS d.size cap),(1,iI a),(6,iI L),(7,.lp 7 0),(8,uU M),(9,iI (a + q * 2 - 1 + t : Nat))] [(7,[uU r.toNat]),(100000,dC x tl)]) 3 ?_ ?_
 ·refine ⟨0,UInt64.ofNat L,d,rfl,by omega,by omega,rfl,?_⟩
  have e : (UInt64.ofNat L).toNat = L:= by rw [UInt64.toNat_ofNat']; omega
  simp only [go_sem,e,Nat.add_zero]
 ·rintro m _ ⟨t,r,x,hx,ht3,hm,hr,rfl⟩
  by_cases h : t < 3
  ·have f1 : (((a + q * 2 - 1 + t : Nat) : Int) ≤ ((a + q * 2 + 1 : Nat) : Int)) = True:= eq_true (by omega)
   have hN:= C_Next (X:= r.toNat) r.toNat_lt
   rw [← xorNext_toNat] at hN
   have hxl:= (xorNext r).toNat_lt
   have e1 : bits .and .u64 ((xorNext r).toNat : Int) ((M - 1 : Nat) : Int) = (((xorNext r).toNat &&& (M - 1) : Nat) : Int):= bits_and_u64_nat _ _ hxl (by omega)
   have hbs:= bpR_step a L M (a + q * 2 - 1) t r x _ h rfl
   rw [hr] at hbs
   have hle : (xorNext r).toNat &&& (M - 1) ≤ M - 1:= Nat.and_le_right
   generalize (xorNext r).toNat &&& (M - 1) = o at e1 hle hbs
   have wo:= iwn o rfl (by omega)
   simp only [go_sem,wq,w2,m2,a2,a3,a4,f1,decide_true,show ((4 : Int) == 0) = false from rfl]
   refine call7_of rfl hN ?_
   simp only [go_sem,wM,e1,wo]
   have a5:= iwn (a + q * 2 - 1 + (t + 1)) (by omega : ((a + q * 2 - 1 + t : Nat) : Int) + 1 = ((a + q * 2 - 1 + (t + 1) : Nat) : Int)) (by omega)
   have bI : ((a + q * 2 - 1 + t : Nat) : Int) < (d.size : Int):= by omega
   by_cases ho : L ≤ o
   ·have f2 : ((L : Int) ≤ (o : Int)) = True:= eq_true (by omega)
    rw [if_pos ho] at hbs
    have w5:= iwn (o - L) (by omega : (o : Int) - (L : Int) = ((o - L : Nat) : Int)) (by omega)
    have w6:= iwn (a + (o - L)) (by omega : (a : Int) + ((o - L : Nat) : Int) = ((a + (o - L) : Nat) : Int)) (by omega)
    have bO : ((a + (o - L) : Nat) : Int) < (d.size : Int):= by omega
    obtain ⟨g3,g4,l1,s1,l2,s2⟩:= swp_cells tl (show a + q * 2 - 1 + t < x.size by omega) (show a + (o - L) < x.size by omega)
    simp only [go_sem,f2,decide_true,w5,w6,a5,bI,bO,g3,g4,l1,s1,l2,s2,Int.natCast_nonneg,Int.toNat_natCast,Nat.zero_add,Nat.mul_one,swp_def]
    exact ⟨m - 1,by omega,t + 1,xorNext r,_,by rw [swp_size,hx],by omega,by omega,hbs.symm,rfl⟩
   ·have f2 : ((L : Int) ≤ (o : Int)) = False:= eq_false (by omega)
    rw [if_neg ho] at hbs
    have w6:= iwn (a + o) (by omega : (a : Int) + (o : Int) = ((a + o : Nat) : Int)) (by omega)
    have bO : ((a + o : Nat) : Int) < (d.size : Int):= by omega
    obtain ⟨g3,g4,l1,s1,l2,s2⟩:= swp_cells tl (show a + q * 2 - 1 + t < x.size by omega) (show a + o < x.size by omega)
    simp only [go_sem,f2,decide_false,w6,a5,bI,bO,g3,g4,l1,s1,l2,s2,Int.natCast_nonneg,Int.toNat_natCast,Nat.zero_add,Nat.mul_one,swp_def]
    exact ⟨m - 1,by omega,t + 1,xorNext r,_,by rw [swp_size,hx],by omega,by omega,hbs.symm,rfl⟩
  ·have e : t = 3:= by omega
   subst e
   have f1 : (((a + q * 2 - 1 + 3 : Nat) : Int) ≤ ((a + q * 2 + 1 : Nat) : Int)) = False:= eq_false (by omega)
   have hr' : bpR a L M (a + q * 2 - 1) 3 0 (UInt64.ofNat L,d) = x:= by rw [← hr]; rfl
   simp only [go_sem,wq,w2,m2,a2,a3,a4,f1,decide_false,show ((4 : Int) == 0) = false from rfl,endM_n,endM_r,hr',retC_7 ht,and_self]
end Go.Proofs.YtnndbbmidoidpaaGreatDoor.VL
end

section
set_option maxHeartbeats 4000000
namespace Go.Proofs.YtnndbbmidoidpaaGreatDoor.VL
open Go.RowKit Go.Proofs Go.Sort
theorem aw_mono {P : Program} (c : ACode) {E : Env} {Q Q' : AExit → Env → Prop} (hk : ∀ ex E,Q ex E → Q' ex E) (h : aw P c E Q) : aw P c E Q':= AM_mk.aw_mono c h hk
theorem aw_loopE {P : Program} {a : ACode} {kl dl : List Nat} {E : Env} {Q : AExit → Env → Prop} (I : Nat → Env → Prop) (n : Nat) (i : Nat) (F : Env) (h0 : I n ((E.dropS kl).freshL dl))
  (h : ∀ m E',I m E' → aw P a E' (thenQ (fun E'' => ∃ k,k < m ∧ I k ((E''.dropS kl).freshL dl)) (fun ex E'' => ex = .exit i ∧ E'' = F))) (hF : Q (.exit i) F) : aw P (.loop a kl dl) E Q :=
 aw_mono _ (Q:= fun ex E'' => ex = .exit i ∧ E'' = F) (fun ex E'' h => by obtain ⟨rfl,rfl⟩:= h; exact hF) (aw_loop I n h0 h)
theorem scanUp_t {p : Int → Bool} {d : Array Int} {j i : Nat} (h : i ≤ j) (hp : p d[i]! = true) : scanUp p d j i = scanUp p d j (i + 1):= by
 rw [scanUp,if_pos (by simp [h,hp])]
theorem scanUp_f {p : Int → Bool} {d : Array Int} {j i : Nat} (h : i ≤ j → p d[i]! = false) : scanUp p d j i = i:= by
 rw [scanUp,if_neg]
 simp only [Bool.and_eq_true,decide_eq_true_eq,not_and,Bool.not_eq_true]
 exact h
theorem scanDown_t {p : Int → Bool} {d : Array Int} {j i : Nat} (h0 : 1 ≤ j) (h : i ≤ j) (hp : p d[j]! = true) : scanDown p d i j = scanDown p d i (j - 1):= by
 obtain ⟨k,rfl⟩ : ∃ k,j = k + 1:= ⟨j - 1,by omega⟩
 rw [scanDown,if_pos (by simp [h,hp])]
 rfl
theorem scanDown_f {p : Int → Bool} {d : Array Int} {j i : Nat} (h : i ≤ j → p d[j]! = false) : scanDown p d i j = j:= by
 cases j with
 | zero => rfl
 | succ k =>
  rw [scanDown,if_neg]
  simp only [Bool.and_eq_true,decide_eq_true_eq,not_and,Bool.not_eq_true]
  exact h
theorem scanUp_le {p : Int → Bool} {d : Array Int} {j i n : Nat} (h1 : i ≤ n) (h2 : j + 1 ≤ n) : scanUp p d j i ≤ n:= by
 by_cases h : i ≤ j + 1
 ·have:= (scanUp_spec p d j _ i rfl).2.1 h
  omega
 ·rw [scanUp_f (by omega)]
  exact h1
theorem C_partitionEqual {d : Array Int} {a b p cap : Nat} {tl : List AV} (ht : Tl tl) (hp1 : a ≤ p) (hp2 : p < b) (hab : a + 1 < b) (hb : b ≤ d.size) (hd : d.size ≤ 255) :
  AM Tryz.prog f_q161 [dS d.size cap,iI a,iI b,iI p] [(100000,dC d tl)] (iI (partitionEqual ltInt d a b p).1) [(100000,dC (partitionEqual ltInt d a b p).2 tl)]:= by
 refine am_q161 ?_ (by simp) (Nat.le_add_left 4 _)
 have bA : (a : Int) < (d.size : Int):= by omega
 have bP : (p : Int) < (d.size : Int):= by omega
 obtain ⟨g3,g4,l1,s1,l2,s2⟩:= swp_cells (x:= d) tl (show a < d.size by omega) (show p < d.size by omega)
 rw [partitionEqual]
 simp only [go_sem,env0M_mk,c_q161,List.map_cons,List.map_nil,bA,bP,g3,g4,l1,s1,l2,s2,Int.natCast_nonneg,Int.toNat_natCast,Nat.zero_add,Nat.mul_one,swp_def,
  iwn (a + 1) (by omega : (a : Int) + 1 = ((a + 1 : Nat) : Int)) (by omega),iwn (b - 1) (by omega : (b : Int) - 1 = ((b - 1 : Nat) : Int)) (by omega)]
 refine aw_loop (fun m E => ∃ (i j : Nat) (x : Array Int),x.size = d.size ∧ a < i ∧ i ≤ b ∧ j < b ∧ j + 1 - i ≤ m ∧ partEqLoop ltInt a i j x = partEqLoop ltInt a (a + 1) (b - 1) (swp d a p) ∧
  E = mkE [(0,dS d.size cap),(1,iI a),(9,iI i),(10,iI j)] [(100000,dC x tl)]) (b - 1 + 1 - (a + 1)) ?_ ?_
 ·exact ⟨a + 1,b - 1,swp d a p,swp_size _ _ _,by omega,by omega,by omega,Nat.le_refl _,rfl,by simp only [go_sem]⟩
 ·rintro m _ ⟨i,j,x,hx,hai,hib,hjb,hm,hr,rfl⟩
  have gA:= dC_ld tl (show a < x.size by omega)
  rw [partEqLoop_eq] at hr
  have hI1:= scanUp_ge (fun y => !ltInt x[a]! y) x j i
  have hI2:= scanUp_le (p:= fun y => !ltInt x[a]! y) (d:= x) (j:= j) hib (show j + 1 ≤ b by omega)
  generalize hI : scanUp (fun y => !ltInt x[a]! y) x j i = I at hr hI1 hI2
  have hJ1:= scanDown_le (fun y => ltInt x[a]! y) x I j
  generalize hJ : scanDown (fun y => ltInt x[a]! y) x I j = J at hr hJ1
  simp only [go_sem]
  refine aw_loopE (fun m' E => ∃ (k : Nat),a < k ∧ j + 1 - k ≤ m' ∧ k ≤ b ∧ scanUp (fun y => !ltInt x[a]! y) x j k = I ∧ E = mkE [(0,dS d.size cap),(1,iI a),(9,iI k),(10,iI j)] [(100000,dC x tl)]) (j + 1 - i) 2
   (mkE [(0,dS d.size cap),(1,iI a),(9,iI I),(10,iI j),(43,.lit (.bool false))] [(100000,dC x tl)]) ?_ ?_ ?_
  ·exact ⟨i,hai,Nat.le_refl _,hib,hI,by simp only [go_sem]⟩
  ·rintro m' _ ⟨k,hk,hm',hkb,hkI,rfl⟩
   have wk:= iwn (k + 1) (by omega : (k : Int) + 1 = ((k + 1 : Nat) : Int)) (by omega)
   by_cases h : k ≤ j
   ·have f1 : ((k : Int) ≤ (j : Int)) = True:= eq_true (by omega)
    have gK:= dC_ld tl (show k < x.size by omega)
    have bK : (k : Int) < (d.size : Int):= by omega
    simp only [go_sem,f1,decide_true,gA,gK,bA,bK,Int.natCast_nonneg,Int.toNat_natCast,Nat.zero_add,Nat.mul_one]
    refine callX_of (C_Less x[a]! x[k]!) ?_
    cases hl : ltInt x[a]! x[k]! with
    | true =>
     rw [scanUp_f (fun _ => by simp [hl])] at hkI
     subst hkI
     simp only [go_sem]
    | false =>
     rw [scanUp_t h (by simp [hl])] at hkI
     simp only [go_sem,wk]
     exact ⟨m' - 1,by omega,k + 1,by omega,by omega,by omega,hkI,rfl⟩
   ·have f1 : ((k : Int) ≤ (j : Int)) = False:= eq_false (by omega)
    rw [scanUp_f (fun h' => absurd h' h)] at hkI
    subst hkI
    simp only [go_sem,f1,decide_false]
  ·simp only [go_sem]
   refine aw_loopE (fun m' E => ∃ (k : Nat),k ≤ m' ∧ k ≤ j ∧ scanDown (fun y => ltInt x[a]! y) x I k = J ∧ E = mkE [(0,dS d.size cap),(1,iI a),(9,iI I),(10,iI k)] [(100000,dC x tl)]) j 4
    (mkE [(0,dS d.size cap),(1,iI a),(9,iI I),(10,iI J),(59,.lit (.bool false))] [(100000,dC x tl)]) ?_ ?_ ?_
   ·exact ⟨j,Nat.le_refl _,Nat.le_refl _,hJ,by simp only [go_sem]⟩
   ·rintro m' _ ⟨k,hm',hkj,hkJ,rfl⟩
    by_cases h : I ≤ k
    ·have f1 : ((I : Int) ≤ (k : Int)) = True:= eq_true (by omega)
     have wk:= iwn (k - 1) (by omega : (k : Int) - 1 = ((k - 1 : Nat) : Int)) (by omega)
     have gK:= dC_ld tl (show k < x.size by omega)
     have bK : (k : Int) < (d.size : Int):= by omega
     simp only [go_sem,f1,decide_true,gA,gK,bA,bK,Int.natCast_nonneg,Int.toNat_natCast,Nat.zero_add,Nat.mul_one]
     refine callX_of (C_Less x[a]! x[k]!) ?_
     cases hl : ltInt x[a]! x[k]! with
     | false =>
      rw [scanDown_f (fun _ => by simp [hl])] at hkJ
      subst hkJ
      simp only [go_sem]
     | true =>
      rw [scanDown_t (by omega) h (by simp [hl])] at hkJ
      simp only [go_sem,wk]
      exact ⟨m' - 1,by omega,k - 1,by omega,by omega,hkJ,rfl⟩
    ·have f1 : ((I : Int) ≤ (k : Int)) = False:= eq_false (by omega)
     rw [scanDown_f (fun h' => absurd h' h)] at hkJ
     subst hkJ
     simp only [go_sem,f1,decide_false]
   ·by_cases h : J < I
    ·have f1 : ((J : Int) < (I : Int)) = True:= eq_true (by omega)
     rw [if_pos h] at hr
     simp only [go_sem,f1,decide_true,endM_n,endM_r,← hr,retC_dC ht,and_self]
    ·have f1 : ((J : Int) < (I : Int)) = False:= eq_false (by omega)
     rw [if_neg h] at hr
     obtain ⟨g3,g4,l1,s1,l2,s2⟩:= swp_cells (x:= x) tl (show I < x.size by omega) (show J < x.size by omega)
     have bI : (I : Int) < (d.size : Int):= by omega
     have bJ : (J : Int) < (d.size : Int):= by omega
     simp only [go_sem,f1,decide_false,bI,bJ,g3,g4,l1,s1,l2,s2,Int.natCast_nonneg,Int.toNat_natCast,Nat.zero_add,Nat.mul_one,swp_def,
      iwn (I + 1) (by omega : (I : Int) + 1 = ((I + 1 : Nat) : Int)) (by omega),iwn (J - 1) (by omega : (J : Int) - 1 = ((J - 1 : Nat) : Int)) (by omega)]
     exact ⟨m - 1,by omega,I + 1,J - 1,_,by rw [swp_size,hx],by omega,by omega,by omega,by omega,hr,rfl⟩
theorem partition_eq (d : Array Int) (a b p : Nat) : partition ltInt d a b p =
  if scanUp (fun y => ltInt y (swp d a p)[a]!) (swp d a p) (b - 1) (a + 1) > scanDown (fun y => !ltInt y (swp d a p)[a]!) (swp d a p) (scanUp (fun y => ltInt y (swp d a p)[a]!) (swp d a p) (b - 1) (a + 1)) (b - 1) then
   (scanDown (fun y => !ltInt y (swp d a p)[a]!) (swp d a p) (scanUp (fun y => ltInt y (swp d a p)[a]!) (swp d a p) (b - 1) (a + 1)) (b - 1),true,swp (swp d a p) (scanDown (fun y => !ltInt y (swp d a p)[a]!) (swp d a p) (scanUp (fun y => ltInt y (swp d a p)[a]!) (swp d a p) (b - 1) (a + 1)) (b - 1)) a)
  else ((partLoop ltInt a (scanUp (fun y => ltInt y (swp d a p)[a]!) (swp d a p) (b - 1) (a + 1) + 1) (scanDown (fun y => !ltInt y (swp d a p)[a]!) (swp d a p) (scanUp (fun y => ltInt y (swp d a p)[a]!) (swp d a p) (b - 1) (a + 1)) (b - 1) - 1)
    (swp (swp d a p) (scanUp (fun y => ltInt y (swp d a p)[a]!) (swp d a p) (b - 1) (a + 1)) (scanDown (fun y => !ltInt y (swp d a p)[a]!) (swp d a p) (scanUp (fun y => ltInt y (swp d a p)[a]!) (swp d a p) (b - 1) (a + 1)) (b - 1)))).1,false,
   swp (partLoop ltInt a (scanUp (fun y => ltInt y (swp d a p)[a]!) (swp d a p) (b - 1) (a + 1) + 1) (scanDown (fun y => !ltInt y (swp d a p)[a]!) (swp d a p) (scanUp (fun y => ltInt y (swp d a p)[a]!) (swp d a p) (b - 1) (a + 1)) (b - 1) - 1)
    (swp (swp d a p) (scanUp (fun y => ltInt y (swp d a p)[a]!) (swp d a p) (b - 1) (a + 1)) (scanDown (fun y => !ltInt y (swp d a p)[a]!) (swp d a p) (scanUp (fun y => ltInt y (swp d a p)[a]!) (swp d a p) (b - 1) (a + 1)) (b - 1)))).2
    (partLoop ltInt a (scanUp (fun y => ltInt y (swp d a p)[a]!) (swp d a p) (b - 1) (a + 1) + 1) (scanDown (fun y => !ltInt y (swp d a p)[a]!) (swp d a p) (scanUp (fun y => ltInt y (swp d a p)[a]!) (swp d a p) (b - 1) (a + 1)) (b - 1) - 1)
    (swp (swp d a p) (scanUp (fun y => ltInt y (swp d a p)[a]!) (swp d a p) (b - 1) (a + 1)) (scanDown (fun y => !ltInt y (swp d a p)[a]!) (swp d a p) (scanUp (fun y => ltInt y (swp d a p)[a]!) (swp d a p) (b - 1) (a + 1)) (b - 1)))).1 a):= rfl
theorem C_partition {d : Array Int} {a b p cap : Nat} {tl : List AV} (ht : Tl tl) (hp1 : a ≤ p) (hp2 : p < b) (hab : a + 1 < b) (hb : b ≤ d.size) (hd : d.size ≤ 255) :
  AM Tryz.prog f_q162 [dS d.size cap,iI a,iI b,iI p] [(100000,dC d tl)] (.tup [iI (partition ltInt d a b p).1,.lit (.bool (partition ltInt d a b p).2.1)]) [(100000,dC (partition ltInt d a b p).2.2 tl)]:= by
 refine am_q162 ?_ (by simp) (Nat.le_add_left 4 _)
 have bA : (a : Int) < (d.size : Int):= by omega
 have bP : (p : Int) < (d.size : Int):= by omega
 obtain ⟨g3,g4,l1,s1,l2,s2⟩:= swp_cells (x:= d) tl (show a < d.size by omega) (show p < d.size by omega)
 simp only [go_sem,env0M_mk,c_q162,List.map_cons,List.map_nil,bA,bP,g3,g4,l1,s1,l2,s2,Int.natCast_nonneg,Int.toNat_natCast,Nat.zero_add,Nat.mul_one,swp_def,
  iwn (a + 1) (by omega : (a : Int) + 1 = ((a + 1 : Nat) : Int)) (by omega),iwn (b - 1) (by omega : (b : Int) - 1 = ((b - 1 : Nat) : Int)) (by omega)]
 clear g3 g4 l1 s1 l2 s2
 have hR:= partition_eq d a b p
 have hx : (swp d a p).size = d.size:= swp_size _ _ _
 generalize swp d a p = x at hR hx
 have gA:= dC_ld tl (show a < x.size by omega)
 have hI1:= scanUp_ge (fun y => ltInt y x[a]!) x (b - 1) (a + 1)
 have hI2:= scanUp_le (p:= fun y => ltInt y x[a]!) (d:= x) (j:= b - 1) (i:= a + 1) (n:= b) (by omega) (by omega)
 generalize hI : scanUp (fun y => ltInt y x[a]!) x (b - 1) (a + 1) = I at hR hI1 hI2
 have hJ1:= scanDown_le (fun y => !ltInt y x[a]!) x I (b - 1)
 generalize hJ : scanDown (fun y => !ltInt y x[a]!) x I (b - 1) = J at hR hJ1
 refine aw_loopE (fun m' E => ∃ (k : Nat),a < k ∧ b - k ≤ m' ∧ k ≤ b ∧ scanUp (fun y => ltInt y x[a]!) x (b - 1) k = I ∧ E = mkE [(0,dS d.size cap),(1,iI a),(10,iI k),(11,iI (b - 1 : Nat))] [(100000,dC x tl)]) b 0
  (mkE [(0,dS d.size cap),(1,iI a),(10,iI I),(11,iI (b - 1 : Nat)),(43,.lit (.bool false))] [(100000,dC x tl)]) ?_ ?_ ?_
 ·exact ⟨a + 1,by omega,by omega,by omega,hI,by simp only [go_sem]⟩
 ·rintro m' _ ⟨k,hk,hm',hkb,hkI,rfl⟩
  have wk:= iwn (k + 1) (by omega : (k : Int) + 1 = ((k + 1 : Nat) : Int)) (by omega)
  by_cases h : k ≤ b - 1
  ·have f1 : ((k : Int) ≤ ((b - 1 : Nat) : Int)) = True:= eq_true (by omega)
   have gK:= dC_ld tl (show k < x.size by omega)
   have bK : (k : Int) < (d.size : Int):= by omega
   simp only [go_sem,f1,decide_true,gA,gK,bA,bK,Int.natCast_nonneg,Int.toNat_natCast,Nat.zero_add,Nat.mul_one]
   refine callX_of (C_Less x[k]! x[a]!) ?_
   cases hl : ltInt x[k]! x[a]! with
   | false =>
    rw [scanUp_f (fun _ => by simp [hl])] at hkI
    subst hkI
    simp only [go_sem]
   | true =>
    rw [scanUp_t h (by simp [hl])] at hkI
    simp only [go_sem,wk]
    exact ⟨m' - 1,by omega,k + 1,by omega,by omega,by omega,hkI,rfl⟩
  ·have f1 : ((k : Int) ≤ ((b - 1 : Nat) : Int)) = False:= eq_false (by omega)
   rw [scanUp_f (fun h' => absurd h' h)] at hkI
   subst hkI
   simp only [go_sem,f1,decide_false]
 ·simp only [go_sem]
  refine aw_loopE (fun m' E => ∃ (k : Nat),k ≤ m' ∧ k ≤ b - 1 ∧ scanDown (fun y => !ltInt y x[a]!) x I k = J ∧ E = mkE [(0,dS d.size cap),(1,iI a),(10,iI I),(11,iI k)] [(100000,dC x tl)]) (b - 1) 2
   (mkE [(0,dS d.size cap),(1,iI a),(10,iI I),(11,iI J),(60,.lit (.bool false))] [(100000,dC x tl)]) ?_ ?_ ?_
  ·exact ⟨b - 1,Nat.le_refl _,Nat.le_refl _,hJ,by simp only [go_sem]⟩
  ·rintro m' _ ⟨k,hm',hkj,hkJ,rfl⟩
   by_cases h : I ≤ k
   ·have f1 : ((I : Int) ≤ (k : Int)) = True:= eq_true (by omega)
    have wk:= iwn (k - 1) (by omega : (k : Int) - 1 = ((k - 1 : Nat) : Int)) (by omega)
    have gK:= dC_ld tl (show k < x.size by omega)
    have bK : (k : Int) < (d.size : Int):= by omega
    simp only [go_sem,f1,decide_true,gA,gK,bA,bK,Int.natCast_nonneg,Int.toNat_natCast,Nat.zero_add,Nat.mul_one]
    refine callX_of (C_Less x[k]! x[a]!) ?_
    cases hl : ltInt x[k]! x[a]! with
    | true =>
     rw [scanDown_f (fun _ => by simp [hl])] at hkJ
     subst hkJ
     simp only [go_sem,Bool.not_true]
    | false =>
     rw [scanDown_t (by omega) h (by simp [hl])] at hkJ
     simp only [go_sem,wk,Bool.not_false]
     exact ⟨m' - 1,by omega,k - 1,by omega,by omega,hkJ,rfl⟩
   ·have f1 : ((I : Int) ≤ (k : Int)) = False:= eq_false (by omega)
    rw [scanDown_f (fun h' => absurd h' h)] at hkJ
    subst hkJ
    simp only [go_sem,f1,decide_false]
  ·have bI : J < I ∨ (I : Int) < (d.size : Int):= by omega
   have bJ : (J : Int) < (d.size : Int):= by omega
   by_cases h : J < I
   ·have f1 : ((J : Int) < (I : Int)) = True:= eq_true (by omega)
    rw [if_pos h] at hR
    obtain ⟨g3,g4,l1,s1,l2,s2⟩:= swp_cells (x:= x) tl (show J < x.size by omega) (show a < x.size by omega)
    simp only [go_sem,f1,decide_true,bA,bJ,g3,g4,l1,s1,l2,s2,Int.natCast_nonneg,Int.toNat_natCast,Nat.zero_add,Nat.mul_one,swp_def,endM_n,endM_r,hR,retC_dC ht,and_self]
   ·have f1 : ((J : Int) < (I : Int)) = False:= eq_false (by omega)
    rw [if_neg h] at hR
    have bI:= bI.resolve_left h
    obtain ⟨g3,g4,l1,s1,l2,s2⟩:= swp_cells (x:= x) tl (show I < x.size by omega) (show J < x.size by omega)
    simp only [go_sem,f1,decide_false,bI,bJ,g3,g4,l1,s1,l2,s2,Int.natCast_nonneg,Int.toNat_natCast,Nat.zero_add,Nat.mul_one,swp_def,
     iwn (I + 1) (by omega : (I : Int) + 1 = ((I + 1 : Nat) : Int)) (by omega),iwn (J - 1) (by omega : (J : Int) - 1 = ((J - 1 : Nat) : Int)) (by omega)]
    clear g3 g4 l1 s1 l2 s2 gA
    have hz : (swp x I J).size = d.size:= by rw [swp_size,hx]
    have hI3 : a < I + 1:= by omega
    have hI4 : I + 1 ≤ b:= by omega
    have hJ3 : J - 1 < b:= by omega
    generalize hR0 : partLoop ltInt a (I + 1) (J - 1) (swp x I J) = R at hR
    generalize swp x I J = y at hR0 hz ⊢
    generalize I + 1 = I0 at hR0 hI3 hI4 ⊢
    generalize J - 1 = J0 at hR0 hJ3 ⊢
    rw [hR]
    refine aw_loop (fun m E => ∃ (i j : Nat) (x : Array Int),x.size = d.size ∧ a < i ∧ i ≤ b ∧ j < b ∧ j + 1 - i ≤ m ∧ partLoop ltInt a i j x = R ∧
     E = mkE [(0,dS d.size cap),(1,iI a),(10,iI i),(11,iI j)] [(100000,dC x tl)]) (J0 + 1 - I0) ?_ ?_
    ·exact ⟨I0,J0,y,hz,hI3,hI4,hJ3,Nat.le_refl _,hR0,by simp only [go_sem]⟩
    ·clear hI hJ hI1 hI2 hJ1 hR hR0 hz hx
     rintro m _ ⟨i,j,x,hx,hai,hib,hjb,hm,hr,rfl⟩
     have gA:= dC_ld tl (show a < x.size by omega)
     rw [partLoop_eq] at hr
     have hI1:= scanUp_ge (fun y => ltInt y x[a]!) x j i
     have hI2:= scanUp_le (p:= fun y => ltInt y x[a]!) (d:= x) (j:= j) hib (show j + 1 ≤ b by omega)
     generalize hI : scanUp (fun y => ltInt y x[a]!) x j i = I at hr hI1 hI2
     have hJ1:= scanDown_le (fun y => !ltInt y x[a]!) x I j
     generalize hJ : scanDown (fun y => !ltInt y x[a]!) x I j = J at hr hJ1
     simp only [go_sem]
     refine aw_loopE (fun m' E => ∃ (k : Nat),a < k ∧ j + 1 - k ≤ m' ∧ k ≤ b ∧ scanUp (fun y => ltInt y x[a]!) x j k = I ∧ E = mkE [(0,dS d.size cap),(1,iI a),(10,iI k),(11,iI j)] [(100000,dC x tl)]) (j + 1 - i) 6
      (mkE [(0,dS d.size cap),(1,iI a),(10,iI I),(11,iI j),(112,.lit (.bool false))] [(100000,dC x tl)]) ?_ ?_ ?_
     ·exact ⟨i,hai,Nat.le_refl _,hib,hI,by simp only [go_sem]⟩
     ·rintro m' _ ⟨k,hk,hm',hkb,hkI,rfl⟩
      have wk:= iwn (k + 1) (by omega : (k : Int) + 1 = ((k + 1 : Nat) : Int)) (by omega)
      by_cases h : k ≤ j
      ·have f1 : ((k : Int) ≤ (j : Int)) = True:= eq_true (by omega)
       have gK:= dC_ld tl (show k < x.size by omega)
       have bK : (k : Int) < (d.size : Int):= by omega
       simp only [go_sem,f1,decide_true,gA,gK,bA,bK,Int.natCast_nonneg,Int.toNat_natCast,Nat.zero_add,Nat.mul_one]
       refine callX_of (C_Less x[k]! x[a]!) ?_
       cases hl : ltInt x[k]! x[a]! with
       | false =>
        rw [scanUp_f (fun _ => by simp [hl])] at hkI
        subst hkI
        simp only [go_sem]
       | true =>
        rw [scanUp_t h (by simp [hl])] at hkI
        simp only [go_sem,wk]
        exact ⟨m' - 1,by omega,k + 1,by omega,by omega,by omega,hkI,rfl⟩
      ·have f1 : ((k : Int) ≤ (j : Int)) = False:= eq_false (by omega)
       rw [scanUp_f (fun h' => absurd h' h)] at hkI
       subst hkI
       simp only [go_sem,f1,decide_false]
     ·simp only [go_sem]
      refine aw_loopE (fun m' E => ∃ (k : Nat),k ≤ m' ∧ k ≤ j ∧ scanDown (fun y => !ltInt y x[a]!) x I k = J ∧ E = mkE [(0,dS d.size cap),(1,iI a),(10,iI I),(11,iI k)] [(100000,dC x tl)]) j 8
       (mkE [(0,dS d.size cap),(1,iI a),(10,iI I),(11,iI J),(129,.lit (.bool false))] [(100000,dC x tl)]) ?_ ?_ ?_
      ·exact ⟨j,Nat.le_refl _,Nat.le_refl _,hJ,by simp only [go_sem]⟩
      ·rintro m' _ ⟨k,hm',hkj,hkJ,rfl⟩
       by_cases h : I ≤ k
       ·have f1 : ((I : Int) ≤ (k : Int)) = True:= eq_true (by omega)
        have wk:= iwn (k - 1) (by omega : (k : Int) - 1 = ((k - 1 : Nat) : Int)) (by omega)
        have gK:= dC_ld tl (show k < x.size by omega)
        have bK : (k : Int) < (d.size : Int):= by omega
        simp only [go_sem,f1,decide_true,gA,gK,bA,bK,Int.natCast_nonneg,Int.toNat_natCast,Nat.zero_add,Nat.mul_one]
        refine callX_of (C_Less x[k]! x[a]!) ?_
        cases hl : ltInt x[k]! x[a]! with
        | true =>
         rw [scanDown_f (fun _ => by simp [hl])] at hkJ
         subst hkJ
         simp only [go_sem,Bool.not_true]
        | false =>
         rw [scanDown_t (by omega) h (by simp [hl])] at hkJ
         simp only [go_sem,wk,Bool.not_false]
         exact ⟨m' - 1,by omega,k - 1,by omega,by omega,hkJ,rfl⟩
       ·have f1 : ((I : Int) ≤ (k : Int)) = False:= eq_false (by omega)
        rw [scanDown_f (fun h' => absurd h' h)] at hkJ
        subst hkJ
        simp only [go_sem,f1,decide_false]
      ·have bJ : (J : Int) < (d.size : Int):= by omega
       by_cases h : J < I
       ·have f1 : ((J : Int) < (I : Int)) = True:= eq_true (by omega)
        rw [if_pos h] at hr
        obtain ⟨g3,g4,l1,s1,l2,s2⟩:= swp_cells (x:= x) tl (show J < x.size by omega) (show a < x.size by omega)
        simp only [go_sem,f1,decide_true,bA,bJ,g3,g4,l1,s1,l2,s2,Int.natCast_nonneg,Int.toNat_natCast,Nat.zero_add,Nat.mul_one,swp_def,endM_n,endM_r,← hr,retC_dC ht,and_self]
       ·have f1 : ((J : Int) < (I : Int)) = False:= eq_false (by omega)
        rw [if_neg h] at hr
        obtain ⟨g3,g4,l1,s1,l2,s2⟩:= swp_cells (x:= x) tl (show I < x.size by omega) (show J < x.size by omega)
        have bI : (I : Int) < (d.size : Int):= by omega
        simp only [go_sem,f1,decide_false,bI,bJ,g3,g4,l1,s1,l2,s2,Int.natCast_nonneg,Int.toNat_natCast,Nat.zero_add,Nat.mul_one,swp_def,
         iwn (I + 1) (by omega : (I : Int) + 1 = ((I + 1 : Nat) : Int)) (by omega),iwn (J - 1) (by omega : (J : Int) - 1 = ((J - 1 : Nat) : Int)) (by omega)]
        exact ⟨m - 1,by omega,I + 1,J - 1,_,by rw [swp_size,hx],by omega,by omega,by omega,by omega,hr,rfl⟩
end Go.Proofs.YtnndbbmidoidpaaGreatDoor.VL
end

section
set_option maxHeartbeats 4000000
namespace Go.Proofs.YtnndbbmidoidpaaGreatDoor.VL
open Go.RowKit Go.Proofs Go.Sort
theorem aw_loopB {P : Program} {a : ACode} {kl dl kb : List Nat} {i : Nat} {E : Env} {Q : AExit → Env → Prop} (I : Nat → Env → Prop) (n : Nat) (F : Env) (h0 : I n ((E.dropS kl).freshL dl))
  (h : ∀ m E',I m E' → aw P a E' (thenQ (fun E'' => ∃ k,k < m ∧ I k ((E''.dropS kl).freshL dl)) (fun ex E'' => ex = .exit i ∧ E''.dropS kb = F))) (hF : Q .normal F) : aw P (.loop a kl dl) E (blockQ i kb Q) :=
 aw_mono _ (Q:= fun ex E'' => ex = .exit i ∧ E''.dropS kb = F) (fun ex E'' h => by
  obtain ⟨rfl,rfl⟩:= h
  show if i = i then _ else _
  rw [if_pos rfl]
  exact hF) (aw_loop I n h0 h)
theorem shiftDown_size {lt : Int → Int → Bool} : ∀ (j : Nat) (x : Array Int),(shiftDown lt j x).size = x.size
 | 0,x => rfl
 | j + 1,x => by
  rw [shiftDown]
  split
  ·rfl
  ·rw [shiftDown_size j,swp_size]
theorem shiftUp_size {lt : Int → Int → Bool} {b : Nat} (j : Nat) (x : Array Int) : (shiftUp lt b j x).size = x.size:= by
 generalize hn : b - j = n
 induction n generalizing j x with
 | zero => rw [shiftUp,if_neg (by omega)]
 | succ n ih =>
  rw [shiftUp]
  split
  ·split
   ·rfl
   ·rw [ih _ _ (by omega),swp_size]
  ·rfl
theorem scanSorted_in {lt : Int → Int → Bool} {x : Array Int} {b i : Nat} (h : i ≤ b) : i ≤ scanSorted lt x b i ∧ scanSorted lt x b i ≤ b:= by
 generalize hn : b - i = n
 induction n generalizing i with
 | zero => rw [scanSorted,if_neg (by simp; omega)]; omega
 | succ n ih =>
  rw [scanSorted]
  split
  ·have:= ih (i:= i + 1) (by omega) (by omega)
   omega
  ·omega
theorem C_partialIns {d : Array Int} {a b cap : Nat} {tl : List AV} (ht : Tl tl) (hab : a < b) (hb : b ≤ d.size) (hd : d.size ≤ 255) :
  AM Tryz.prog f_q159 [dS d.size cap,iI a,iI b] [(100000,dC d tl)] (.lit (.bool (partialInsertionSort ltInt d a b).2)) [(100000,dC (partialInsertionSort ltInt d a b).1 tl)]:= by
 refine am_q159 ?_ (by simp) (Nat.le_add_left 3 _)
 simp only [go_sem,env0M_mk,c_q159,List.map_cons,List.map_nil,iwn (a + 1) (by omega : (a : Int) + 1 = ((a + 1 : Nat) : Int)) (by omega)]
 refine aw_loop (fun m E => ∃ (s i : Nat) (x : Array Int),x.size = d.size ∧ a < i ∧ i ≤ b ∧ s ≤ 5 ∧ s ≤ m ∧ partialIns ltInt a b s i x = partialInsertionSort ltInt d a b ∧
  E = mkE [(0,dS d.size cap),(1,iI a),(2,iI b),(7,iI i),(8,iI ((5 - s : Nat)))] [(100000,dC x tl)]) 5 ?_ ?_
 ·exact ⟨5,a + 1,d,rfl,by omega,by omega,by omega,by omega,rfl,by simp only [go_sem,Nat.sub_self,Int.natCast_zero]⟩
 ·rintro m _ ⟨s,i,x,hx,hai,hib,hs5,hm,hr,rfl⟩
  cases s with
  | zero =>
   have f1 : (((5 - 0 : Nat) : Int) < 5) = False:= eq_false (by omega)
   have e : partialInsertionSort ltInt d a b = (x,false):= by rw [← hr]; rfl
   simp only [go_sem,f1,decide_false,endM_n,endM_r,e,retC_dC ht,and_self]
  | succ s =>
   have f1 : (((5 - (s + 1) : Nat) : Int) < 5) = True:= eq_true (by omega)
   have w5:= iwn (5 - s) (by omega : ((5 - (s + 1) : Nat) : Int) + 1 = ((5 - s : Nat) : Int)) (by omega)
   have hk:= scanSorted_in (lt:= ltInt) (x:= x) hib
   rw [partialIns] at hr
   simp only [] at hr
   generalize hK : scanSorted ltInt x b i = k at hr hk
   simp only [go_sem,f1,decide_true]
   refine aw_loopB (fun m' E => ∃ (j : Nat),a < j ∧ j ≤ b ∧ b - j ≤ m' ∧ scanSorted ltInt x b j = k ∧
    E = mkE [(0,dS d.size cap),(1,iI a),(2,iI b),(7,iI j),(8,iI ((5 - (s + 1) : Nat)))] [(100000,dC x tl)]) b
    (mkE [(0,dS d.size cap),(1,iI a),(2,iI b),(7,iI k),(8,iI ((5 - (s + 1) : Nat)))] [(100000,dC x tl)]) ?_ ?_ ?_
   ·exact ⟨i,hai,hib,by omega,hK,by simp only [go_sem]⟩
   ·rintro m' _ ⟨j,haj,hjb,hm',hjk,rfl⟩
    by_cases h6 : j < b
    ·have f5 : ((j : Int) < (b : Int)) = True:= eq_true (by omega)
     have wj:= iwn (j - 1) (by omega : (j : Int) - 1 = ((j - 1 : Nat) : Int)) (by omega)
     have wj2:= iwn (j + 1) (by omega : (j : Int) + 1 = ((j + 1 : Nat) : Int)) (by omega)
     have bj : (j : Int) < (d.size : Int):= by omega
     have bj1 : ((j - 1 : Nat) : Int) < (d.size : Int):= by omega
     have g3:= dC_ld tl (show j < x.size by omega)
     have g4:= dC_ld tl (show j - 1 < x.size by omega)
     simp only [go_sem,f5,decide_true,wj,bj,bj1,g3,g4,Int.natCast_nonneg,Int.toNat_natCast,Nat.zero_add,Nat.mul_one]
     refine callX_of (C_Less x[j]! x[j - 1]!) ?_
     rw [scanSorted] at hjk
     cases hl : ltInt x[j]! x[j - 1]! with
     | true =>
      rw [if_neg (by simp [hl])] at hjk
      subst hjk
      simp only [go_sem,Bool.not_true,and_self]
     | false =>
      rw [if_pos (by simp [hl,h6])] at hjk
      simp only [go_sem,Bool.not_false,wj2]
      exact ⟨m' - 1,by omega,j + 1,by omega,by omega,by omega,hjk,rfl⟩
    ·have f5 : ((j : Int) < (b : Int)) = False:= eq_false (by omega)
     rw [scanSorted,if_neg (by simp [h6])] at hjk
     subst hjk
     simp only [go_sem,f5,decide_false,and_self]
   by_cases hkb : k = b
   ·have f2 : ((k : Int) == (b : Int)) = true:= by simp [hkb]
    rw [if_pos hkb] at hr
    simp only [go_sem,f2,endM_n,endM_r,← hr,retC_dC ht,and_self]
   have f2 : ((k : Int) == (b : Int)) = false:= by simp; omega
   rw [if_neg hkb] at hr
   have wB:= iwn (b - a) (by omega : (b : Int) - (a : Int) = ((b - a : Nat) : Int)) (by omega)
   by_cases h50 : b - a < 50
   ·have f3 : (((b - a : Nat) : Int) < 50) = True:= eq_true (by omega)
    rw [if_pos h50] at hr
    simp only [go_sem,f2,wB,f3,decide_true,endM_n,endM_r,← hr,retC_dC ht,and_self]
   have f3 : (((b - a : Nat) : Int) < 50) = False:= eq_false (by omega)
   rw [if_neg h50] at hr
   have wk1:= iwn (k + 1) (by omega : (k : Int) + 1 = ((k + 1 : Nat) : Int)) (by omega)
   have wk2:= iwn (k - 1) (by omega : (k : Int) - 1 = ((k - 1 : Nat) : Int)) (by omega)
   have bk : (k : Int) < (d.size : Int):= by omega
   have bk1 : ((k - 1 : Nat) : Int) < (d.size : Int):= by omega
   have wD:= iwn (k - a) (by omega : (k : Int) - (a : Int) = ((k - a : Nat) : Int)) (by omega)
   obtain ⟨g3,g4,l1,s1,l2,s2⟩:= swp_cells (x:= x) tl (show k < x.size by omega) (show k - 1 < x.size by omega)
   have hy : (swp x k (k - 1)).size = d.size:= by rw [swp_size,hx]
   by_cases hdn : 2 ≤ k - a
   ·have f6 : ((2 : Int) ≤ ((k - a : Nat) : Int)) = True:= eq_true (by omega)
    rw [if_pos hdn] at hr
    simp only [go_sem,f2,wB,f3,decide_false,wk2,bk,bk1,g3,g4,l1,s1,l2,s2,Int.natCast_nonneg,Int.toNat_natCast,Nat.zero_add,Nat.mul_one,swp_def,wD,f6,decide_true]
    clear g3 g4 l1 s1 l2 s2
    generalize swp x k (k - 1) = y0 at hr hy ⊢
    have hy' : (shiftDown ltInt (k - 1) y0).size = d.size:= by rw [shiftDown_size,hy]
    refine aw_loopB (fun m' E => ∃ (j : Nat) (z : Array Int),z.size = d.size ∧ j < b ∧ j ≤ m' ∧ shiftDown ltInt j z = shiftDown ltInt (k - 1) y0 ∧
     E = mkE [(0,dS d.size cap),(1,iI a),(2,iI b),(7,iI k),(8,iI ((5 - (s + 1) : Nat))),(9,iI j)] [(100000,dC z tl)]) b
     (mkE [(0,dS d.size cap),(1,iI a),(2,iI b),(7,iI k),(8,iI ((5 - (s + 1) : Nat)))] [(100000,dC (shiftDown ltInt (k - 1) y0) tl)]) ?_ ?_ ?_
    ·exact ⟨k - 1,y0,hy,by omega,by omega,rfl,by simp only [go_sem]⟩
    ·rintro m' _ ⟨j,z,hz,hkj,hm',hr',rfl⟩
     cases j with
     | zero =>
      have f5 : ((1 : Int) ≤ ((0 : Nat) : Int)) = False:= eq_false (by omega)
      have e5 : shiftDown ltInt (k - 1) y0 = z:= by rw [← hr']; rfl
      simp only [go_sem,f5,decide_false,e5,and_self]
     | succ j =>
      have f5 : ((1 : Int) ≤ ((j + 1 : Nat) : Int)) = True:= eq_true (by omega)
      have wj:= iwn j (by omega : ((j + 1 : Nat) : Int) - 1 = (j : Int)) (by omega)
      have bj : ((j + 1 : Nat) : Int) < (d.size : Int):= by omega
      have bj1 : (j : Int) < (d.size : Int):= by omega
      obtain ⟨g3,g4,l1,s1,l2,s2⟩:= swp_cells (x:= z) tl (show j + 1 < z.size by omega) (show j < z.size by omega)
      simp only [go_sem,f5,decide_true,wj,bj,bj1,g3,g4,Int.natCast_nonneg,Int.toNat_natCast,Nat.zero_add,Nat.mul_one]
      refine callX_of (C_Less z[j + 1]! z[j]!) ?_
      rw [shiftDown] at hr'
      cases hl : ltInt z[j + 1]! z[j]! with
      | true =>
       rw [if_neg (by simp [hl])] at hr'
       simp only [go_sem,Bool.not_true,wj,bj,bj1,g3,g4,l1,s1,l2,s2,Int.natCast_nonneg,Int.toNat_natCast,Nat.zero_add,Nat.mul_one,swp_def]
       exact ⟨m' - 1,by omega,j,_,by rw [swp_size,hz],by omega,by omega,hr',rfl⟩
      | false =>
       rw [if_pos (by simp [hl])] at hr'
       simp only [go_sem,Bool.not_false,← hr',and_self]
    clear hy
    generalize shiftDown ltInt (k - 1) y0 = y at hr hy' ⊢
    have hy:= hy'
    have wU:= iwn (b - k) (by omega : (b : Int) - (k : Int) = ((b - k : Nat) : Int)) (by omega)
    by_cases hu : 2 ≤ b - k
    ·have f4 : ((2 : Int) ≤ ((b - k : Nat) : Int)) = True:= eq_true (by omega)
     rw [if_pos hu] at hr
     simp only [go_sem,wU,f4,decide_true,wk1]
     refine aw_loopB (fun m' E => ∃ (j : Nat) (z : Array Int),z.size = d.size ∧ k < j ∧ b - j ≤ m' ∧ shiftUp ltInt b j z = shiftUp ltInt b (k + 1) y ∧
      E = mkE [(0,dS d.size cap),(1,iI a),(2,iI b),(7,iI k),(8,iI ((5 - (s + 1) : Nat))),(10,iI j)] [(100000,dC z tl)]) b
      (mkE [(0,dS d.size cap),(1,iI a),(2,iI b),(7,iI k),(8,iI ((5 - (s + 1) : Nat)))] [(100000,dC (shiftUp ltInt b (k + 1) y) tl)]) ?_ ?_ ?_
     ·exact ⟨k + 1,y,hy,by omega,by omega,rfl,by simp only [go_sem]⟩
     ·rintro m' _ ⟨j,z,hz,hkj,hm',hr',rfl⟩
      by_cases h6 : j < b
      ·have f5 : ((j : Int) < (b : Int)) = True:= eq_true (by omega)
       have wj:= iwn (j - 1) (by omega : (j : Int) - 1 = ((j - 1 : Nat) : Int)) (by omega)
       have wj2:= iwn (j + 1) (by omega : (j : Int) + 1 = ((j + 1 : Nat) : Int)) (by omega)
       have bj : (j : Int) < (d.size : Int):= by omega
       have bj1 : ((j - 1 : Nat) : Int) < (d.size : Int):= by omega
       obtain ⟨g3,g4,l1,s1,l2,s2⟩:= swp_cells (x:= z) tl (show j < z.size by omega) (show j - 1 < z.size by omega)
       simp only [go_sem,f5,decide_true,wj,bj,bj1,g3,g4,Int.natCast_nonneg,Int.toNat_natCast,Nat.zero_add,Nat.mul_one]
       refine callX_of (C_Less z[j]! z[j - 1]!) ?_
       rw [shiftUp,if_pos h6] at hr'
       cases hl : ltInt z[j]! z[j - 1]! with
       | true =>
        rw [if_neg (by simp [hl])] at hr'
        simp only [go_sem,Bool.not_true,wj,wj2,bj,bj1,g3,g4,l1,s1,l2,s2,Int.natCast_nonneg,Int.toNat_natCast,Nat.zero_add,Nat.mul_one,swp_def]
        exact ⟨m' - 1,by omega,j + 1,_,by rw [swp_size,hz],by omega,by omega,hr',rfl⟩
       | false =>
        rw [if_pos (by simp [hl])] at hr'
        simp only [go_sem,Bool.not_false,← hr',and_self]
      ·have f5 : ((j : Int) < (b : Int)) = False:= eq_false (by omega)
       have e5 : shiftUp ltInt b (k + 1) y = z:= by rw [← hr',shiftUp,if_neg h6]
       simp only [go_sem,f5,decide_false,e5,and_self]
     ·simp only [go_sem,w5]
      exact ⟨m - 1,by omega,s,k,_,by rw [shiftUp_size,hy],by omega,by omega,by omega,by omega,hr,rfl⟩
    ·have f4 : ((2 : Int) ≤ ((b - k : Nat) : Int)) = False:= eq_false (by omega)
     rw [if_neg hu] at hr
     simp only [go_sem,wU,f4,decide_false,w5]
     exact ⟨m - 1,by omega,s,k,_,hy,by omega,by omega,by omega,by omega,hr,rfl⟩
   ·have f6 : ((2 : Int) ≤ ((k - a : Nat) : Int)) = False:= eq_false (by omega)
    rw [if_neg hdn] at hr
    simp only [go_sem,f2,wB,f3,decide_false,wk2,bk,bk1,g3,g4,l1,s1,l2,s2,Int.natCast_nonneg,Int.toNat_natCast,Nat.zero_add,Nat.mul_one,swp_def,wD,f6]
    clear g3 g4 l1 s1 l2 s2
    generalize swp x k (k - 1) = y at hr hy ⊢
    have wU:= iwn (b - k) (by omega : (b : Int) - (k : Int) = ((b - k : Nat) : Int)) (by omega)
    by_cases hu : 2 ≤ b - k
    ·have f4 : ((2 : Int) ≤ ((b - k : Nat) : Int)) = True:= eq_true (by omega)
     rw [if_pos hu] at hr
     simp only [go_sem,wU,f4,decide_true,wk1]
     refine aw_loopB (fun m' E => ∃ (j : Nat) (z : Array Int),z.size = d.size ∧ k < j ∧ b - j ≤ m' ∧ shiftUp ltInt b j z = shiftUp ltInt b (k + 1) y ∧
      E = mkE [(0,dS d.size cap),(1,iI a),(2,iI b),(7,iI k),(8,iI ((5 - (s + 1) : Nat))),(10,iI j)] [(100000,dC z tl)]) b
      (mkE [(0,dS d.size cap),(1,iI a),(2,iI b),(7,iI k),(8,iI ((5 - (s + 1) : Nat)))] [(100000,dC (shiftUp ltInt b (k + 1) y) tl)]) ?_ ?_ ?_
     ·exact ⟨k + 1,y,hy,by omega,by omega,rfl,by simp only [go_sem]⟩
     ·rintro m' _ ⟨j,z,hz,hkj,hm',hr',rfl⟩
      by_cases h6 : j < b
      ·have f5 : ((j : Int) < (b : Int)) = True:= eq_true (by omega)
       have wj:= iwn (j - 1) (by omega : (j : Int) - 1 = ((j - 1 : Nat) : Int)) (by omega)
       have wj2:= iwn (j + 1) (by omega : (j : Int) + 1 = ((j + 1 : Nat) : Int)) (by omega)
       have bj : (j : Int) < (d.size : Int):= by omega
       have bj1 : ((j - 1 : Nat) : Int) < (d.size : Int):= by omega
       obtain ⟨g3,g4,l1,s1,l2,s2⟩:= swp_cells (x:= z) tl (show j < z.size by omega) (show j - 1 < z.size by omega)
       simp only [go_sem,f5,decide_true,wj,bj,bj1,g3,g4,Int.natCast_nonneg,Int.toNat_natCast,Nat.zero_add,Nat.mul_one]
       refine callX_of (C_Less z[j]! z[j - 1]!) ?_
       rw [shiftUp,if_pos h6] at hr'
       cases hl : ltInt z[j]! z[j - 1]! with
       | true =>
        rw [if_neg (by simp [hl])] at hr'
        simp only [go_sem,Bool.not_true,wj,wj2,bj,bj1,g3,g4,l1,s1,l2,s2,Int.natCast_nonneg,Int.toNat_natCast,Nat.zero_add,Nat.mul_one,swp_def]
        exact ⟨m' - 1,by omega,j + 1,_,by rw [swp_size,hz],by omega,by omega,hr',rfl⟩
       | false =>
        rw [if_pos (by simp [hl])] at hr'
        simp only [go_sem,Bool.not_false,← hr',and_self]
      ·have f5 : ((j : Int) < (b : Int)) = False:= eq_false (by omega)
       have e5 : shiftUp ltInt b (k + 1) y = z:= by rw [← hr',shiftUp,if_neg h6]
       simp only [go_sem,f5,decide_false,e5,and_self]
     ·simp only [go_sem,w5]
      exact ⟨m - 1,by omega,s,k,_,by rw [shiftUp_size,hy],by omega,by omega,by omega,by omega,hr,rfl⟩
    ·have f4 : ((2 : Int) ≤ ((b - k : Nat) : Int)) = False:= eq_false (by omega)
     rw [if_neg hu] at hr
     simp only [go_sem,wU,f4,decide_false,w5]
     exact ⟨m - 1,by omega,s,k,_,hy,by omega,by omega,by omega,by omega,hr,rfl⟩
end Go.Proofs.YtnndbbmidoidpaaGreatDoor.VL
end

section
set_option maxHeartbeats 8000000
namespace Go.Proofs.YtnndbbmidoidpaaGreatDoor.VL
open Go.RowKit Go.Proofs Go.Sort
theorem condX_cut {P : Program} {v : AV} {a b : ACode} {E : Env} {Q : AExit → Env → Prop} {K : Env → Prop} (F : Env → Prop) (h : condX v P a b E (thenQ F Q)) (hF : ∀ E',F E' → K E') : condX v P a b E (thenQ K Q):= by
 obtain ⟨t,ht,h1,h2⟩:= h
 have m : ∀ ex E',thenQ F Q ex E' → thenQ K Q ex E':= fun ex E' h => by
  cases ex with
  | normal => exact hF _ h
  | exit i => exact h
  | ret => exact h
 exact ⟨t,ht,fun e => aw_mono _ m (h1 e),fun e => aw_mono _ m (h2 e)⟩
theorem aw_cut {P : Program} {c rest : ACode} {E : Env} {Q : AExit → Env → Prop} (F : Env → Prop) (h : aw P c E (thenQ F Q)) (hF : ∀ E',F E' → aw P rest E' Q) : aw P (.seq c rest) E Q :=
 aw_mono c (Q:= thenQ F Q) (fun ex E' h => by
  cases ex with
  | normal => exact hF _ h
  | exit i => exact h
  | ret => exact h) h
theorem mkE_ext {s s' : List (Nat × AV)} (c : List (Nat × List AV)) (h : ∀ k,getA s k = getA s' k) : mkE s c = mkE s' c:= by
 show (⟨getA s,getC c⟩ : Env) = ⟨getA s',getC c⟩
 rw [funext h]
theorem hintI_two (h : Hint) : (hintI h == 2) = decide (h = .decreasing):= by cases h <;> rfl
theorem hintI_one (h : Hint) : (hintI h == 1) = decide (h = .increasing):= by cases h <;> rfl
theorem C_pdq {tl : List AV} (ht : Tl tl) (cap : Nat) : ∀ (n : Nat) (d : Array Int) (a b limit : Nat),b - a < n → a ≤ b → b ≤ d.size → d.size ≤ 255 → limit ≤ 8 → Below ltInt a b d →
  AM Tryz.prog f_q100 [dS d.size cap,iI a,iI b,iI limit] [(100000,dC d tl)] (.tup []) [(100000,dC (pdq ltInt d a b limit true true) tl)]:= by
 intro n
 induction n with
 | zero => intro d a b limit h; exact absurd h (Nat.not_lt_zero _)
 | succ n ih =>
  intro d a b limit hn hab hb hd hlim hBel
  refine am_q100 ?_ (by simp) (Nat.le_add_left 4 _)
  simp only [go_sem,env0M_mk,c_q100,List.map_cons,List.map_nil]
  refine aw_loop (fun m E => ∃ (a' b' lim : Nat) (wb wp : Bool) (x : Array Int),a' ≤ b' ∧ b' ≤ d.size ∧ b' - a' ≤ m ∧ b' - a' ≤ b - a ∧ lim ≤ 8 ∧ x.size = d.size ∧ Below ltInt a' b' x ∧ pdq ltInt x a' b' lim wb wp = pdq ltInt d a b limit true true ∧
   E = mkE [(0,dS d.size cap),(1,iI a'),(2,iI b'),(3,iI lim),(8,.lit (.bool wb)),(9,.lit (.bool wp))] [(100000,dC x tl)]) (b - a) ?_ ?_
  ·exact ⟨a,b,limit,true,true,d,hab,hb,Nat.le_refl _,Nat.le_refl _,hlim,rfl,hBel,rfl,by simp only [go_sem]⟩
  ·rintro m _ ⟨a',b',lim,wb,wp,x,hab',hb',hm,hN,hl8,hx,hB,heq,rfl⟩
   have wl:= iwn (b' - a') (by omega : (b' : Int) - (a' : Int) = ((b' - a' : Nat) : Int)) (by omega)
   by_cases h12 : b' - a' ≤ 12
   ·have f1 : (((b' - a' : Nat) : Int) ≤ 12) = True:= eq_true (by omega)
    rw [pdq_small h12] at heq
    have hC:= C_insertion (cap:= cap) (d:= x) ht hab' (by omega) (by omega)
    rw [hx,heq] at hC
    simp only [go_sem,wl,f1,decide_true]
    refine callD_of ht rfl hC ?_
    simp only [go_sem,endM_n,endM_r,retC_dC ht,and_self]
   have f1 : (((b' - a' : Nat) : Int) ≤ 12) = False:= eq_false (by omega)
   by_cases hl0 : lim = 0
   ·have f2 : ((lim : Int) == 0) = true:= by simp [hl0]
    rw [pdq_heap h12 hl0] at heq
    have hC:= C_heap (cap:= cap) (d:= x) ht (show a' < b' by omega) (by omega) (by omega)
    rw [hx,heq] at hC
    simp only [go_sem,wl,f1,decide_false,f2]
    refine callD_of ht rfl hC ?_
    simp only [go_sem,endM_n,endM_r,retC_dC ht,and_self]
   have f2 : ((lim : Int) == 0) = false:= by simp; omega
   obtain ⟨s1,B1,hc1,s2,B2,hpv,s3,B3⟩:= rd_facts (limit:= lim) (wb:= wb) (wp:= wp) swo_ltInt partialInsertionSort_holds reverseRange_holds (show a' < b' by omega) (show b' ≤ x.size by omega) hB
   have hD:= pdq_done (lt:= ltInt) (d:= x) (a:= a') (b:= b') (limit:= lim) (wb:= wb) (wp:= wp) h12 hl0
   have hE:= pdq_eq (lt:= ltInt) (d:= x) (a:= a') (b:= b') (limit:= lim) (wb:= wb) (wp:= wp) h12 hl0
   have hL:= pdq_left (lt:= ltInt) (d:= x) (a:= a') (b:= b') (limit:= lim) (wb:= wb) (wp:= wp) h12 hl0
   have hR:= pdq_right (lt:= ltInt) (d:= x) (a:= a') (b:= b') (limit:= lim) (wb:= wb) (wp:= wp) h12 hl0
   have hb1 : wb = false → (rd ltInt x a' b' lim wb wp).d1 = breakPatterns x a' b' ∧ (rd ltInt x a' b' lim wb wp).lim = lim - 1:= by rintro rfl; exact rd_false
   have hb2 : wb = true → (rd ltInt x a' b' lim wb wp).d1 = x ∧ (rd ltInt x a' b' lim wb wp).lim = lim:= by rintro rfl; exact rd_true
   have hcp:= rd_c (lt:= ltInt) (d:= x) (a:= a') (b:= b') (limit:= lim) (wb:= wb) (wp:= wp)
   have hdec:= rd_dec (lt:= ltInt) (d:= x) (a:= a') (b:= b') (limit:= lim) (wb:= wb) (wp:= wp)
   have hnot:= rd_not (lt:= ltInt) (d:= x) (a:= a') (b:= b') (limit:= lim) (wb:= wb) (wp:= wp)
   have hpy:= rd_pi_yes (lt:= ltInt) (d:= x) (a:= a') (b:= b') (limit:= lim) (wb:= wb) (wp:= wp)
   have hpn:= rd_pi_no (lt:= ltInt) (d:= x) (a:= a') (b:= b') (limit:= lim) (wb:= wb) (wp:= wp)
   have hll:= rd_lim_le (lt:= ltInt) (d:= x) (a:= a') (b:= b') (limit:= lim) (wb:= wb) (wp:= wp)
   generalize rd ltInt x a' b' lim wb wp = r at s1 B1 hc1 s2 B2 hpv s3 B3 hD hE hL hR hb1 hb2 hcp hdec hnot hpy hpn hll
   simp only [go_sem,wl,f1,decide_false,f2]
   refine condX_cut (fun E' => ∃ z,E' = mkE [(0,dS d.size cap),(1,iI a'),(2,iI b'),(3,iI r.lim),(8,.lit (.bool wb)),(9,.lit (.bool wp)),(10,iI (b' - a' : Nat)),(35,z)] [(100000,dC r.d1 tl)]) ?_ ?_
   ·cases wb with
    | true =>
     obtain ⟨e1,e2⟩:= hb2 rfl
     simp only [go_sem,Bool.not_true,e1,e2]
     exact ⟨_,rfl⟩
    | false =>
     obtain ⟨e1,e2⟩:= hb1 rfl
     have hC:= C_breakPatterns (cap:= cap) (d:= x) ht (show a' + 12 < b' by omega) (by omega) (by omega)
     rw [hx,← e1] at hC
     simp only [go_sem,Bool.not_false]
     refine callD_of ht rfl hC ?_
     simp only [go_sem,iwn (lim - 1) (by omega : (lim : Int) - 1 = ((lim - 1 : Nat) : Int)) (by omega)]
     refine ⟨.dead,?_⟩
     rw [e2]
     exact mkE_ext _ fun k => by by_cases h : k = 35 <;> simp [getA,h]
   ·rintro _ ⟨z,rfl⟩
    have hC:= C_choosePivot (cap:= cap) (d:= r.d1) ht (show a' + 12 < b' by omega) (by omega) (by omega)
    rw [s1,hx,← hcp] at hC
    simp only [go_sem]
    refine callD_of ht rfl hC ?_
    simp only [go_sem,hintI_two]
    refine condX_cut (fun E' => ∃ z,E' = mkE [(0,dS d.size cap),(1,iI a'),(2,iI b'),(3,iI r.lim),(8,.lit (.bool wb)),(9,.lit (.bool wp)),(10,iI (b' - a' : Nat)),(11,iI r.pivot),(12,.lit (.int .i64 (hintI r.hint))),(50,z)] [(100000,dC r.d2 tl)]) ?_ ?_
    ·by_cases hh : r.c.2 = .decreasing
     ·obtain ⟨e1,e2,e3⟩:= hdec hh
      have hC:= C_reverse (cap:= cap) (d:= r.d1) ht (show a' < b' by omega) (by omega) (by omega)
      rw [s1,hx,← e1] at hC
      simp only [go_sem,hh,decide_true]
      refine callD_of ht rfl hC ?_
      simp only [go_sem,iwn (b' - 1) (by omega : (b' : Int) - 1 = ((b' - 1 : Nat) : Int)) (by omega),iwn (r.c.1 - a') (by omega : (r.c.1 : Int) - (a' : Int) = ((r.c.1 - a' : Nat) : Int)) (by omega),
       iwn (b' - 1 - (r.c.1 - a')) (by omega : ((b' - 1 : Nat) : Int) - ((r.c.1 - a' : Nat) : Int) = ((b' - 1 - (r.c.1 - a') : Nat) : Int)) (by omega)]
      refine ⟨.dead,?_⟩
      rw [e2,e3]
      exact mkE_ext _ fun k => by by_cases h : k = 50 <;> simp [getA,h,hintI]
     ·obtain ⟨e1,e2,e3⟩:= hnot hh
      simp only [go_sem,hh,decide_false,e1,e2,e3]
      exact ⟨_,rfl⟩
    ·rintro _ ⟨z,rfl⟩
     refine aw_cut (fun E' => r.pi.2 = false ∧ ∃ z1 z2,E' = mkE [(0,dS d.size cap),(1,iI a'),(2,iI b'),(3,iI r.lim),(8,.lit (.bool wb)),(9,.lit (.bool wp)),(10,iI (b' - a' : Nat)),(11,iI r.pivot),(68,z1),(72,z2)] [(100000,dC r.pi.1 tl)]) ?_ ?_
     ·have no : r.pi = (r.d2,false) → ∀ t : AV,(r.pi.2 = false ∧ ∃ z1 z2,mkE [(0,dS d.size cap),(1,iI a'),(2,iI b'),(3,iI r.lim),(8,.lit (.bool wb)),(9,.lit (.bool wp)),(10,iI (b' - a' : Nat)),(11,iI r.pivot),(68,t)] [(100000,dC r.d2 tl)] =
        mkE [(0,dS d.size cap),(1,iI a'),(2,iI b'),(3,iI r.lim),(8,.lit (.bool wb)),(9,.lit (.bool wp)),(10,iI (b' - a' : Nat)),(11,iI r.pivot),(68,z1),(72,z2)] [(100000,dC r.pi.1 tl)]):= by
       intro e t
       rw [e]
       refine ⟨rfl,t,.dead,mkE_ext _ fun k => ?_⟩
       by_cases h : k = 72 <;> simp [getA,h]
      cases wb with
      | false =>
       have e:= no (hpn rfl)
       simp only [go_sem]
       exact e _
      | true =>
       cases wp with
       | false =>
        have e:= no (hpn rfl)
        simp only [go_sem]
        exact e _
       | true =>
        by_cases hi : r.hint = .increasing
        ·have e:= hpy (by simp [hi])
         have hC:= C_partialIns (cap:= cap) (d:= r.d2) ht (show a' < b' by omega) (by omega) (by omega)
         rw [s2,hx,← e] at hC
         simp only [go_sem,hintI_one,hi,decide_true]
         refine callD_of ht rfl hC ?_
         cases h2 : r.pi.2 with
         | true =>
          have e2:= hD h2
          rw [heq] at e2
          simp only [go_sem,endM_n,endM_r,e2,retC_dC ht,and_self]
         | false =>
          simp only [go_sem,true_and]
          refine ⟨.dead,.lit (.bool false),mkE_ext _ fun k => ?_⟩
          by_cases h : k = 68 <;> simp [getA,h]
        ·have e:= no (hpn (by simp [hi]))
         simp only [go_sem,hintI_one,hi,decide_false]
         exact e _
     ·rintro _ ⟨hp2,z1,z2,rfl⟩
      have hz : r.pi.1.size = d.size:= by rw [s3,hx]
      have hbz : b' ≤ r.pi.1.size:= by omega
      have wE : (((b' - a' : Nat) : Int)).tdiv 8 = (((b' - a') / 8 : Nat) : Int):= by
       rw [Int.tdiv_eq_ediv_of_nonneg (by omega)]
       omega
      refine aw_cut (fun E' => (decide (a' > 0) && !ltInt r.pi.1[a' - 1]! r.pi.1[r.pivot]!) = false ∧ ∃ z,E' = mkE [(0,dS d.size cap),(1,iI a'),(2,iI b'),(3,iI r.lim),(8,.lit (.bool wb)),(9,.lit (.bool wp)),(10,iI (b' - a' : Nat)),(11,iI r.pivot),(87,z)] [(100000,dC r.pi.1 tl)]) ?_ ?_
      ·by_cases ha : 0 < a'
       ·have f3 : ((0 : Int) < (a' : Int)) = True:= eq_true (by omega)
        have wa:= iwn (a' - 1) (by omega : (a' : Int) - 1 = ((a' - 1 : Nat) : Int)) (by omega)
        have g1:= dC_ld tl (show a' - 1 < r.pi.1.size by omega)
        have g2:= dC_ld tl (show r.pivot < r.pi.1.size by omega)
        have b1 : ((a' - 1 : Nat) : Int) < (d.size : Int):= by omega
        have b2 : (r.pivot : Int) < (d.size : Int):= by omega
        simp only [go_sem,f3,decide_true,wa,g1,g2,b1,b2,Int.natCast_nonneg,Int.toNat_natCast,Nat.zero_add,Nat.mul_one]
        refine callX_of (C_Less r.pi.1[a' - 1]! r.pi.1[r.pivot]!) ?_
        cases hl : ltInt r.pi.1[a' - 1]! r.pi.1[r.pivot]! with
        | true =>
         simp only [go_sem,Bool.not_true,Bool.and_false,true_and]
         exact ⟨_,rfl⟩
        | false =>
         obtain ⟨h3,h4,hs4,hB4,_⟩:= round_eq (mid:= (partitionEqual ltInt r.pi.1 a' b' r.pivot).1) (d4:= (partitionEqual ltInt r.pi.1 a' b' r.pivot).2) swo_ltInt (partitionEqual_holds _) ha hpv.1 hpv.2 hbz B3 hl rfl
         have e:= hE hp2 (by simp [hl,ha]) ⟨h3,h4⟩
         have hC:= C_partitionEqual (cap:= cap) (d:= r.pi.1) ht hpv.1 hpv.2 (by omega) hbz (by omega)
         rw [hz] at hC hs4
         rw [heq] at e
         generalize partitionEqual ltInt r.pi.1 a' b' r.pivot = q at h3 h4 hs4 hB4 e hC
         simp only [go_sem,Bool.not_false]
         refine callD_of ht rfl hC ?_
         simp only [go_sem]
         exact ⟨m - 1,by omega,q.1,b',r.lim,wb,wp,q.2,h4,hb',by omega,by omega,by omega,hs4,hB4,e.symm,rfl⟩
       ·have f3 : ((0 : Int) < (a' : Int)) = False:= eq_false (by omega)
        simp only [go_sem,f3,decide_false,show decide (a' > 0) = false by simp; omega,Bool.false_and,true_and]
        exact ⟨_,rfl⟩
      ·rintro _ ⟨ht2,z,rfl⟩
       obtain ⟨h3,h4,hs4,hB4,hB5,hLL,hRR⟩:= round_part (mid:= (partition ltInt r.pi.1 a' b' r.pivot).1) (ap:= (partition ltInt r.pi.1 a' b' r.pivot).2.1) (d4:= (partition ltInt r.pi.1 a' b' r.pivot).2.2) swo_ltInt (partition_holds _) hpv.1 hpv.2 hbz B3 rfl
       have eL:= hL hp2 ht2 ⟨h3,h4⟩
       have eR:= hR hp2 ht2 ⟨h3,h4⟩
       have hC:= C_partition (cap:= cap) (d:= r.pi.1) ht hpv.1 hpv.2 (by omega) hbz (by omega)
       rw [hz] at hC hs4
       rw [heq] at eL eR
       generalize partition ltInt r.pi.1 a' b' r.pivot = q at h3 h4 hs4 hB4 hB5 hLL hRR eL eR hC
       have wx:= iwn (q.1 - a') (by omega : (q.1 : Int) - (a' : Int) = ((q.1 - a' : Nat) : Int)) (by omega)
       have wy:= iwn (b' - q.1) (by omega : (b' : Int) - (q.1 : Int) = ((b' - q.1 : Nat) : Int)) (by omega)
       have w8:= iwn ((b' - a') / 8) rfl (by omega)
       have wp1:= iwn (q.1 + 1) (by omega : (q.1 : Int) + 1 = ((q.1 + 1 : Nat) : Int)) (by omega)
       simp only [go_sem]
       refine callD_of ht rfl hC ?_
       by_cases hlr : q.1 - a' < b' - q.1
       ·have f4 : (((q.1 - a' : Nat) : Int) < ((b' - q.1 : Nat) : Int)) = True:= eq_true (by omega)
        have hI:= ih q.2.2 a' q.1 r.lim (by omega) h3 (by omega) (by omega) (by omega) hB4
        rw [hs4] at hI
        have hp:= pdq_sorts ltInt swo_ltInt q.2.2 a' q.1 r.lim true true h3 (by omega) hB4
        obtain ⟨hB6,_⟩:= hLL _ hp.1 hp.2
        have e:= eL hlr
        have e8 : decide ((((b' - a') / 8 : Nat) : Int) ≤ ((q.1 - a' : Nat) : Int)) = decide (q.1 - a' ≥ (b' - a') / 8):= decide_eq_decide.2 (by omega)
        simp only [go_sem,wx,wy,wE,w8,f4,decide_true,e8,show ((8 : Int) == 0) = false from rfl]
        refine callD_of ht rfl hI ?_
        simp only [go_sem,wp1]
        exact ⟨m - 1,by omega,q.1 + 1,b',r.lim,_,q.2.1,_,by omega,hb',by omega,by omega,by omega,by rw [hp.1.1,hs4],hB6,e.symm,rfl⟩
       ·have f4 : (((q.1 - a' : Nat) : Int) < ((b' - q.1 : Nat) : Int)) = False:= eq_false (by omega)
        have hI:= ih q.2.2 (q.1 + 1) b' r.lim (by omega) (by omega) (by omega) (by omega) (by omega) hB5
        rw [hs4] at hI
        have hp:= pdq_sorts ltInt swo_ltInt q.2.2 (q.1 + 1) b' r.lim true true (by omega) (by omega) hB5
        obtain ⟨hB6,_⟩:= hRR _ hp.1 hp.2
        have e:= eR hlr
        have e8 : decide ((((b' - a') / 8 : Nat) : Int) ≤ ((b' - q.1 : Nat) : Int)) = decide (b' - q.1 ≥ (b' - a') / 8):= decide_eq_decide.2 (by omega)
        simp only [go_sem,wx,wy,wE,w8,f4,decide_false,e8,wp1,show ((8 : Int) == 0) = false from rfl]
        refine callD_of ht rfl hI ?_
        simp only [go_sem]
        exact ⟨m - 1,by omega,a',q.1,r.lim,_,q.2.1,_,h3,by omega,by omega,by omega,by omega,by rw [hp.1.1,hs4],hB6,e.symm,rfl⟩
theorem C_Sort {d : Array Int} {cap : Nat} {tl : List AV} (ht : Tl tl) (hd : d.size ≤ 255) :
  AM Tryz.prog f_q43 [dS d.size cap] [(100000,dC d tl)] (.tup []) [(100000,dC (sort ltInt d) tl)]:= by
 refine am_q43 ?_ (by simp) (Nat.le_add_left 1 _)
 have wu : IntKind.u64.wrap (d.size : Int) = (d.size : Int):= by rw [IntKind.wrap_u64]; omega
 have hC:= C_pdq ht cap (d.size + 1) d 0 d.size (bitsLen d.size) (by omega) (Nat.zero_le _) (Nat.le_refl _) hd (bitsLen_le8 (by omega)) (Or.inl rfl)
 simp only [go_sem,env0M_mk,c_q43,List.map_cons,List.map_nil,wu]
 refine callX_of (C_Len (n:= d.size) (by omega)) ?_
 simp only [go_sem]
 refine callD_of ht rfl hC ?_
 simp only [go_sem,endM_n,endM_r]
 exact retC_dC ht
theorem C_SortL {l : List Int} {cap : Nat} {tl : List AV} (ht : Tl tl) (hd : l.length ≤ 255) :
  AM Tryz.prog f_q43 [dS l.length cap] [(100000,l.map aI ++ tl)] (.tup []) [(100000,(l.mergeSort (fun x y => decide (x ≤ y))).map aI ++ tl)]:= by
 have h:= C_Sort (d:= l.toArray) (cap:= cap) ht (by simpa using hd)
 rw [show l.toArray.size = l.length by simp] at h
 rw [show dC l.toArray tl = l.map aI ++ tl by simp [dC],show dC (sort ltInt l.toArray) tl = (l.mergeSort (fun x y => decide (x ≤ y))).map aI ++ tl by rw [dC,sortInt l]] at h
 exact h
end Go.Proofs.YtnndbbmidoidpaaGreatDoor.VL
end

section
set_option maxHeartbeats 4000000
namespace Go.Proofs.YtnndbbmidoidpaaGreatDoor.VL
open Go.RowKit Go.Proofs Go.Sort
def dd : List Int → List Int
 | [] => []
 | [a] => [a]
 | a :: b :: t => if a = b then dd (b :: t) else a :: dd (b :: t)
theorem dd_snoc (b c : Int) : ∀ l : List Int,dd (l ++ [b,c]) = if b = c then dd (l ++ [b]) else dd (l ++ [b]) ++ [c]
 | [] => by
  simp only [List.nil_append,dd]
  split
  ·rename_i h; rw [h]
  ·rfl
 | [a] => by
  simp only [List.cons_append,List.nil_append,dd]
  by_cases h : b = c <;> by_cases h2 : a = b <;> simp [h,h2]
 | a :: a' :: l => by
  have ih:= dd_snoc b c (a' :: l)
  simp only [List.cons_append] at ih ⊢
  simp only [dd]
  by_cases h2 : a = a'
  ·simp only [if_pos h2]; exact ih
  ·simp only [if_neg h2]
   rw [ih]
   by_cases h : b = c
   ·simp only [if_pos h]
   ·simp only [if_neg h]; rfl
theorem take_succ_get {x : Array Int} {j : Nat} (h : j < x.size) : x.toList.take (j + 1) = x.toList.take j ++ [x[j]!]:= by
 rw [List.take_add_one]
 simp [h]
theorem dd_take {x : Array Int} {j : Nat} (h0 : 1 ≤ j) (h : j < x.size) : dd (x.toList.take (j + 1)) = if x[j - 1]! = x[j]! then dd (x.toList.take j) else dd (x.toList.take j) ++ [x[j]!]:= by
 obtain ⟨i,rfl⟩ : ∃ i,j = i + 1:= ⟨j - 1,by omega⟩
 rw [take_succ_get h,take_succ_get (show i < x.size by omega),List.append_assoc]
 exact dd_snoc _ _ _
structure CI (o : Array Int) (j k : Nat) (x : Array Int) : Prop where
 size : x.size = o.size
 lt : k < j
 le : j ≤ o.size
 pre : x.toList.take k = dd (o.toList.take j)
 post : ∀ i,k ≤ i → x[i]! = o[i]!
theorem set_get_ne {x : Array Int} {k i : Nat} (v : Int) (h : k ≠ i) : (x.setIfInBounds k v)[i]! = x[i]!:= by
 rw [Array.getElem!_eq_getD,Array.getElem!_eq_getD,Array.getD_eq_getD_getElem?,Array.getD_eq_getD_getElem?,Array.getElem?_setIfInBounds_ne h]
theorem set_get_self {x : Array Int} {k : Nat} (v : Int) (h : k < x.size) : (x.setIfInBounds k v)[k]! = v:= by
 rw [Array.getElem!_eq_getD,Array.getD_eq_getD_getElem?,Array.getElem?_setIfInBounds_self_of_lt h]
 rfl
theorem CI.step_eq {o x : Array Int} {j k : Nat} (h : CI o j k x) (hj : j < o.size) (he : x[j]! = x[j - 1]!) : CI o (j + 1) k x:= by
 have hl:= h.lt
 refine ⟨h.size,by omega,hj,?_,h.post⟩
 rw [h.post j (by omega),h.post (j - 1) (by omega)] at he
 rw [h.pre,dd_take (by omega) hj,if_pos he.symm]
theorem CI.step_ne {o x : Array Int} {j k : Nat} (h : CI o j k x) (hj : j < o.size) (he : x[j]! ≠ x[j - 1]!) : CI o (j + 1) (k + 1) (x.setIfInBounds k x[j]!):= by
 have hl:= h.lt
 have hs:= h.size
 refine ⟨by rw [Array.size_setIfInBounds,h.size],by omega,hj,?_,fun i hi => ?_⟩
 ·rw [h.post j (by omega),h.post (j - 1) (by omega)] at he
  rw [dd_take (by omega) hj,if_neg (fun e => he e.symm),← h.pre,take_succ_get (by rw [Array.size_setIfInBounds]; omega),set_get_self _ (by omega),h.post j (by omega)]
  congr 1
  rw [Array.toList_setIfInBounds,List.take_set,List.set_eq_of_length_le (by simp; omega)]
 ·rw [set_get_ne _ (by omega)]
  exact h.post i (by omega)
theorem dd_len : ∀ l : List Int,(dd l).length ≤ l.length
 | [] => Nat.le_refl _
 | [a] => Nat.le_refl _
 | a :: b :: t => by
  have:= dd_len (b :: t)
  simp only [dd]
  split <;> simp at this ⊢ <;> omega
theorem aw_loopF {P : Program} {a : ACode} {kl dl kb : List Nat} {i : Nat} {E : Env} {Q : AExit → Env → Prop} (I : Nat → Env → Prop) (n : Nat) (F : Env → Prop) (h0 : I n ((E.dropS kl).freshL dl))
  (h : ∀ m E',I m E' → aw P a E' (thenQ (fun E'' => ∃ k,k < m ∧ I k ((E''.dropS kl).freshL dl)) (fun ex E'' => ex = .exit i ∧ F (E''.dropS kb)))) (hF : ∀ E',F E' → Q .normal E') : aw P (.loop a kl dl) E (blockQ i kb Q) :=
 aw_mono _ (Q:= fun ex E'' => ex = .exit i ∧ F (E''.dropS kb)) (fun ex E'' h => by
  obtain ⟨rfl,h⟩:= h
  show if i = i then _ else _
  rw [if_pos rfl]
  exact hF _ h) (aw_loop I n h0 h)
theorem C_Compact {d : Array Int} {cap : Nat} {tl : List AV} (ht : Tl tl) (hc : d.size ≤ cap) (hd : d.size ≤ 255) :
  AM Tryz.prog f_q44 [dS d.size cap] [(100000,dC d tl)] (dS (dd d.toList).length cap)
   [(100000,(dd d.toList).map aI ++ (List.replicate (d.size - (dd d.toList).length) (aI 0) ++ tl))]:= by
 refine am_q44 ?_ (by simp) (Nat.le_add_left 1 _)
 simp only [go_sem,env0M_mk,c_q44,List.map_cons,List.map_nil]
 have whole : dd d.toList = d.toList → retC (mkE [(2,dS d.size cap)] [(100000,dC d tl)]) [100000] = some [(100000,(dd d.toList).map aI ++ (List.replicate (d.size - (dd d.toList).length) (aI 0) ++ tl))]:= by
  intro e
  rw [retC_dC ht,e]
  simp [dC]
 by_cases h2 : d.size < 2
 ·have f1 : ((d.size : Int) < 2) = True:= eq_true (by omega)
  have e : dd d.toList = d.toList:= by
   match hq : d.toList with
   | [] => rfl
   | [a] => rfl
   | a :: b :: t => have:= congrArg List.length hq; simp at this; omega
  simp only [go_sem,f1,decide_true]
  refine shiftX_refl ?_
  simp only [go_sem,endM_n,endM_r]
  refine ⟨?_,whole e⟩
  rw [e]
  simp
  done
 have f1 : ((d.size : Int) < 2) = False:= eq_false (by omega)
 simp only [go_sem,f1,decide_false]
 refine aw_loop (fun m E => ∃ i,1 ≤ i ∧ i ≤ d.size ∧ d.size - i ≤ m ∧ dd (d.toList.take i) = d.toList.take i ∧ E = mkE [(0,dS d.size cap),(3,iI i)] [(100000,dC d tl)]) d.size ?_ ?_
 ·refine ⟨1,Nat.le_refl _,by omega,by omega,?_,by simp only [go_sem,Int.natCast_one]⟩
  match hq : d.toList with
  | [] => rfl
  | a :: t => rfl
 ·rintro m _ ⟨i,h1,hi,hm,hdd,rfl⟩
  by_cases hin : i < d.size
  ·have f2 : ((i : Int) < (d.size : Int)) = True:= eq_true (by omega)
   have w1:= iwn (i - 1) (by omega : (i : Int) - 1 = ((i - 1 : Nat) : Int)) (by omega)
   have w2:= iwn (i + 1) (by omega : (i : Int) + 1 = ((i + 1 : Nat) : Int)) (by omega)
   have b1 : ((i - 1 : Nat) : Int) < (d.size : Int):= by omega
   have g1:= dC_ld tl hin
   have g2:= dC_ld tl (show i - 1 < d.size by omega)
   by_cases heq : d[i]! = d[i - 1]!
   ·have f3 : (d[i]! == d[i - 1]!) = true:= by simp [heq]
    have hsl : 0 ≤ (i : Int) ∧ (i : Int) ≤ (d.size : Int) ∧ (d.size : Int) ≤ (d.size : Int) ∧ ((i : Int) < cap ∨ (i : Int) = 0) ∧ d.size ≤ cap:= by omega
    have hCI : CI d (i + 1) i d:= ⟨rfl,by omega,by omega,by rw [dd_take h1 hin,if_pos heq.symm,hdd],fun _ _ => rfl⟩
    simp only [go_sem,f2,decide_true,w1,b1,g1,g2,f3,Int.natCast_nonneg,Int.toNat_natCast,Nat.zero_add,Nat.mul_one,avSlM_some 1 100000 0 d.size cap false (i : Int) (d.size : Int) hsl]
    refine aw_loopF (fun m' E => ∃ (j k : Nat) (x : Array Int),CI d (i + j) k x ∧ d.size - (i + j) ≤ m' ∧ 1 ≤ j ∧ i ≤ k ∧ E = mkE [(0,dS d.size cap),(3,iI k),(4,.ml 100000 i (d.size - i) (cap - i) false 1),(5,iI j)] [(100000,dC x tl)]) d.size
     (fun E' => ∃ (k : Nat) (x : Array Int),i ≤ k ∧ CI d d.size k x ∧ E' = mkE [(0,dS d.size cap),(3,iI k)] [(100000,dC x tl)]) ?_ ?_ ?_
    ·exact ⟨1,i,d,hCI,by omega,Nat.le_refl _,Nat.le_refl _,by simp only [go_sem,Int.natCast_one]⟩
    ·rintro m' _ ⟨j,k,x,hx,hm',hj1,hik,rfl⟩
     have hle:= hx.le
     have hlt:= hx.lt
     have hsz:= hx.size
     by_cases hjn : i + j < d.size
     ·have f4 : ((j : Int) < ((d.size - i : Nat) : Int)) = True:= eq_true (by omega)
      have w3:= iwn (j - 1) (by omega : (j : Int) - 1 = ((j - 1 : Nat) : Int)) (by omega)
      have w4:= iwn (j + 1) (by omega : (j : Int) + 1 = ((j + 1 : Nat) : Int)) (by omega)
      have w5:= iwn (k + 1) (by omega : (k : Int) + 1 = ((k + 1 : Nat) : Int)) (by omega)
      have b2 : ((j - 1 : Nat) : Int) < ((d.size - i : Nat) : Int):= by omega
      have b3 : (k : Int) < (d.size : Int):= by omega
      have g3:= dC_ld tl (show i + j < x.size by omega)
      have g4:= dC_ld tl (show i + (j - 1) < x.size by omega)
      have l1 : k + 1 ≤ (dC x tl).length:= by rw [dC_len]; omega
      have s1:= dC_set tl (show k < x.size by omega) x[i + j]!
      have e1 : i + (j - 1) = i + j - 1:= by omega
      simp only [go_sem,f4,decide_true,w3,b2,g3,g4,Int.natCast_nonneg,Int.toNat_natCast,Nat.zero_add,Nat.mul_one]
      by_cases he : x[i + j]! = x[i + (j - 1)]!
      ·have f5 : (x[i + j]! != x[i + (j - 1)]!) = false:= by simp [he]
       simp only [go_sem,f5,w4]
       exact ⟨m' - 1,by omega,j + 1,k,x,hx.step_eq hjn (by rw [he,e1]),by omega,by omega,hik,rfl⟩
      ·have f5 : (x[i + j]! != x[i + (j - 1)]!) = true:= by simp [he]
       simp only [go_sem,f5,f4,decide_true,w4,w5,g3,l1,s1,b3,Int.natCast_nonneg,Int.toNat_natCast,Nat.zero_add,Nat.mul_one]
       exact ⟨m' - 1,by omega,j + 1,k + 1,_,hx.step_ne hjn (by rw [← e1]; exact he),by omega,by omega,by omega,rfl⟩
     ·have f4 : ((j : Int) < ((d.size - i : Nat) : Int)) = False:= eq_false (by omega)
      simp only [go_sem,f4,decide_false]
      obtain rfl : j = d.size - i:= by omega
      rw [show i + (d.size - i) = d.size by omega] at hx
      exact ⟨k,x,hik,hx,rfl⟩
    ·rintro _ ⟨k,x,hik,hx,rfl⟩
     have hlt:= hx.lt
     have hsz:= hx.size
     have hlen : (dd d.toList).length = k:= by
      have:= congrArg List.length hx.pre
      rw [List.take_of_length_le (show d.toList.length ≤ d.size by simp)] at this
      rw [← this,List.length_take,Array.length_toList]
      omega
     have hpre : x.toList.take k = dd d.toList:= by
      rw [hx.pre,List.take_of_length_le (show d.toList.length ≤ d.size by simp)]
     have hce : (dC x tl).take k ++ (List.replicate (d.size - k) [AV.lit (.int .u32 0)]).flatten ++ (dC x tl).drop (k + (d.size - k)) = (dd d.toList).map aI ++ (List.replicate (d.size - k) (aI 0) ++ tl):= by
      have e1 : (dC x tl).take k = (dd d.toList).map aI:= by
       rw [dC,List.take_append_of_le_length (by simp; omega),← List.map_take,hpre]
      have e2 : (dC x tl).drop (k + (d.size - k)) = tl:= by
       rw [dC]
       exact List.drop_left' (by simp; omega)
      have e3 : ∀ n : Nat,(List.replicate n [AV.lit (.int .u32 0)]).flatten = List.replicate n (aI 0):= by
       intro n
       induction n with
       | zero => rfl
       | succ n ih => rw [List.replicate_succ,List.flatten_cons,ih]; rfl
      rw [e1,e2,e3,List.append_assoc]
     have hs1 : 0 ≤ (k : Int) ∧ (k : Int) ≤ (d.size : Int) ∧ (d.size : Int) ≤ (d.size : Int) ∧ ((k : Int) < cap ∨ (k : Int) = 0) ∧ d.size ≤ cap:= by omega
     have hs2 : 0 ≤ ((0 : Nat) : Int) ∧ ((0 : Nat) : Int) ≤ (k : Int) ∧ (k : Int) ≤ (d.size : Int) ∧ (((0 : Nat) : Int) < cap ∨ ((0 : Nat) : Int) = 0) ∧ d.size ≤ cap:= by omega
     have hcl : (1 : Nat) = [AV.lit (.int .u32 0)].length ∧ k + (d.size - k) * 1 ≤ (dC x tl).length ∧ oneL [AV.lit (.int .u32 0)] = true:= by
      refine ⟨rfl,?_,rfl⟩
      rw [dC_len]
      omega
     simp only [go_sem,avSlM_some 1 100000 0 d.size cap false (k : Int) (d.size : Int) hs1,avSlM_some 1 100000 0 d.size cap false ((0 : Nat) : Int) (k : Int) hs2,Int.toNat_natCast,Nat.zero_add,Nat.mul_one,Int.toNat_zero,Nat.zero_mul,Nat.sub_zero]
     simp only [go_sem,clrM_some (c:= [(100000,dC x tl)]) [AV.lit (.int .u32 0)] 100000 k (d.size - k) 1 (dC x tl) hcl,hce,avSlM_some 1 100000 0 d.size cap false ((0 : Nat) : Int) (k : Int) hs2,Int.toNat_natCast,Nat.zero_add,Nat.mul_one,Int.toNat_zero,Nat.zero_mul,Nat.sub_zero,endM_n,endM_r,hlen,true_and]
     have hret:= retC_dC (s:= [(2,dS k cap)]) (d:= (dd d.toList).toArray) (tl:= List.replicate (d.size - k) (aI 0) ++ tl) (by
      intro y hy
      rcases List.mem_append.1 hy with hy | hy
      ·exact .inr ⟨_,List.eq_of_mem_replicate hy⟩
      ·exact ht y hy)
     exact hret
   ·have f3 : (d[i]! == d[i - 1]!) = false:= by simp [heq]
    simp only [go_sem,f2,decide_true,w1,b1,g1,g2,f3,Int.natCast_nonneg,Int.toNat_natCast,Nat.zero_add,Nat.mul_one,w2]
    exact ⟨m - 1,by omega,i + 1,by omega,by omega,by omega,by rw [dd_take h1 hin,if_neg (fun e => heq e.symm),hdd,take_succ_get hin],rfl⟩
  ·have f2 : ((i : Int) < (d.size : Int)) = False:= eq_false (by omega)
   have e : dd d.toList = d.toList:= by
    rw [List.take_of_length_le (by simp; omega)] at hdd
    exact hdd
   simp only [go_sem,f2,decide_false,endM_n,endM_r]
   refine ⟨?_,whole e⟩
   rw [e]
   simp
   done
end Go.Proofs.YtnndbbmidoidpaaGreatDoor.VL
end

section
set_option maxHeartbeats 4000000
namespace Go.Proofs.YtnndbbmidoidpaaGreatDoor.VL
open Go.RowKit Go.Proofs Go.Sort
theorem AC_hdr {P : Program} {f : FuncId} {t : Tok} {e : Nat} {r : AV} (h : ∀ A cap,AC P f [.lit (.slice A 0 cap)] r) : AC P f [.sl t e []] r:= by
 refine ⟨(h none 0).res,(h none 0).enters,fun R cargs hR hh hg hr => ?_⟩
 simp only [RepL,Rep] at hr
 obtain ⟨v,ws,rfl,⟨A,cap,vs,rfl,_⟩,rfl⟩:= hr
 exact (h A cap).calls R _ hR hh hg (by simp only [RepL,Rep]; exact ⟨_,_,rfl,rfl,rfl⟩)
theorem AC_weak {P : Program} {f : FuncId} {args : List AV} {r r' : AV} (h : AC P f args r) (hr : ∀ E v,Rep E r v → Rep E r' v) (hok : resOK r' = true:= by rfl) : AC P f args r' :=
 ⟨hok,h.enters,fun R cargs hR hh hg ha => (h.calls R cargs hR hh hg ha).mono fun e w' ⟨v,E',h1,h2,h3,h4,h5⟩ => ⟨v,E',h1,h2,hr _ _ h3,h4,h5⟩⟩
theorem rep_sl0 {E : RE} {t : Tok} {e e' : Nat} {v : Value} (h : Rep E (.sl t e []) v) : Rep E (.sl .none e' []) v:= by
 simp only [Rep] at h ⊢
 obtain ⟨A,cap,vs,rfl,h1,h2,h3,h4,_⟩:= h
 refine ⟨A,cap,vs,rfl,h1,h2,fun u hu => ?_,h4,fun h => absurd rfl h⟩
 have : vs = []:= by simpa [RepL] using h2
 rw [this] at hu
 simp at hu
theorem isNone_some (a : Addr) : (some a : Option Addr).isNone = false:= rfl
theorem isNone_none : (none : Option Addr).isNone = true:= rfl
theorem C_ins0 (t : Tok) (e : Nat) : AC Tryz.prog f_q154 [.sl t e [],iI 0,iI 0] (.tup []):= by
 refine ac_q154 ?_ (Nat.le_add_left 3 _)
 simp only [go_sem,c_q154,iw 1 (by decide) (by decide),Int.zero_add]
 refine aw_loop (fun m E => E = mkE [(0,.sl t e []),(1,iI 0),(2,iI 0),(6,iI 1)] []) 0 (by simp only [go_sem]) ?_
 rintro m _ rfl
 simp only [go_sem,show ((1 : Int) < 0) = False from by simp,decide_false]
theorem C_pdq0 (t : Tok) (e : Nat) : AC Tryz.prog f_q100 [.sl t e [],iI 0,iI 0,iI 0] (.tup []):= by
 refine ac_q100 ?_ (Nat.le_add_left 4 _)
 simp only [go_sem,c_q100]
 refine aw_loop (fun m E => E = mkE [(0,.sl t e []),(1,iI 0),(2,iI 0),(3,iI 0),(8,.lit (.bool true)),(9,.lit (.bool true))] []) 0 (by simp only [go_sem]) ?_
 rintro m _ rfl
 simp only [go_sem,Int.sub_self,iw 0 (by decide) (by decide),show ((0 : Int) ≤ 12) = True from by simp,decide_true]
 refine callX_of (C_ins0 _ _) ?_
 simp only [go_sem]
theorem C_Sort0 (t : Tok) (e : Nat) : AC Tryz.prog f_q43 [.sl t e []] (.tup []):= by
 refine ac_q43 ?_ (Nat.le_add_left 1 _)
 have wu : IntKind.u64.wrap ((0 : Nat) : Int) = ((0 : Nat) : Int):= by decide
 simp only [go_sem,c_q43,List.length_nil,wu]
 refine callX_of (C_Len (n:= 0) (by decide)) ?_
 simp only [go_sem,show bitsLen 0 = 0 from rfl,Int.natCast_zero]
 refine callX_of (C_pdq0 _ _) ?_
 simp only [go_sem]
theorem C_Compact0 (e : Nat) : AC Tryz.prog f_q44 [.sl .none e []] (.sl .none e []):= by
 refine ac_q44 ?_ (Nat.le_add_left 1 _)
 simp only [go_sem,c_q44,List.length_nil,show (((0 : Nat) : Int) < 2) = True from by simp,decide_true]
 refine shiftX_refl ?_
 simp only [go_sem]
def rise (l : List Int) : List Int:= dd (l.mergeSort (fun x y => decide (x ≤ y)))
theorem back_0 (s : List (Nat × AV)) (x y : List AV) : backC [(0,100000)] [(100000,y)] (mkE s [(0,x)]) = mkE s [(0,y)]:= by
 simp only [backC,mkE]
 congr 1
 funext c
 by_cases h2 : c = 0
 ·subst h2; rfl
 ·simp [lentAs,getC,h2]
theorem call0_of {P : Program} {dst : Option Nat} {os : List AOper} {s : List (Nat × AV)} {K : Env → Prop} {f : FuncId} {raw al : List AV} {args : Option (List AV)} {r : AV} {l : List Int} {tl y : List AV} (ht : Tl tl)
  (hl : mapO (lowerM [(0,100000)] (getC [(0,l.map aI ++ tl)]) 8) raw = some al) (h : AM P f al [(100000,l.map aI ++ tl)] r [(100000,y)])
  (hk : awX false P os ((mkE s [(0,y)]).putO dst (retag (dst.getD 0) (unlend [(0,100000)] r))) K) : callX false P dst os s [(0,l.map aI ++ tl)] K f raw args:= by
 refine callM_of [(0,100000)] rfl hl ?_ h ?_
 ·show mapO _ _ = _
  have:= close_dC l.toArray ht
  rw [show dC l.toArray tl = l.map aI ++ tl by simp [dC]] at this
  simp only [mapO_cons,mapO_nil,getC_cons,↓reduceIte,this,catO_some]
 ·rw [back_0]
  exact hk
theorem chunk_ints : ∀ (l : List Int),chunk false 1 l.length (l.map aI) = l.map aI
 | [] => rfl
 | a :: l => by
  simp only [List.length_cons,List.map_cons,chunk,List.take_succ_cons,List.take_zero,List.headD_cons,List.drop_succ_cons,List.drop_zero,chunk_ints l]
theorem cells_ints : ∀ (l : List Int),(l.map aI).flatMap cellsOf = l.map aI
 | [] => rfl
 | a :: l => by
  simp only [List.map_cons,List.flatMap_cons,cells_ints l]
  rfl
end Go.Proofs.YtnndbbmidoidpaaGreatDoor.VL
end

