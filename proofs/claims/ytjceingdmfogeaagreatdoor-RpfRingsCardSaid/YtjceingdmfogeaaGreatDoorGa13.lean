import Derived.Test.YtjceingdmfogeaaGreatDoorGa12
set_option linter.unusedVariables false
set_option linter.unusedSimpArgs false
section
set_option maxHeartbeats 4000000
namespace Go.Proofs.YtjceingdmfogeaaGreatDoor.VL
open Go.RowKit Go.Proofs
def nameN (c : UInt8) (n : Nat) : ByteArray:= ⟨#[c,UInt8.ofNat (48 + n)]⟩
def addrL (l n : Nat) : Nat:= 167772160 + 256 * l + n
theorem avBin_two (t : TypeId) (a b : UInt8) : avBin .add t (.lit (.string ⟨#[a]⟩)) (.lit (.string ⟨#[b]⟩)) = some (.lit (.string ⟨#[a,b]⟩)):= by
 rfl
theorem C_name (c : UInt8) (n : Nat) (hn : n < 10) : AC Tryz.prog f_q26 [avStr ⟨#[c]⟩,avI n] (.lit (.string (nameN c n))):= by
 refine ac_q26 ?_ (Nat.le_add_left 2 _)
 have f1 : ((n : Int) < 10) = True:= eq_true (by omega)
 have hw : IntKind.wrap .i64 (48 + (n : Int)) = ((48 + n : Nat) : Int):= by
  have:= wrap_nat (48 + n) (by omega)
  rwa [show (48 + (n : Int)) = ((48 + n : Nat) : Int) by omega]
 have hw2 : IntKind.wrap .i32 ((48 + n : Nat) : Int) = ((48 + n : Nat) : Int):= (by decide : ∀ n,n < 10 → IntKind.wrap .i32 ((48 + n : Nat) : Int) = ((48 + n : Nat) : Int)) n hn
 have hi:= avI2s_n .i32 ((48 + n : Nat) : Int) (by omega)
 simp only [go_sem,c_q26,avI,avStr,f1,decide_true,hw,hw2,hi,Int.toNat_natCast]
 rw [avBin_two]
 simp only [go_sem,nameN]
theorem bits_addr : ∀ l,l < 10 → ∀ n,n < 12 → bits .or .u32 (bits .or .u32 167772160 (IntKind.wrap .u32 (IntKind.wrap .u32 ((l : Nat) : Int) * 2 ^ 8))) (IntKind.wrap .u32 ((n : Nat) : Int)) = ((addrL l n : Nat) : Int):= by decide +kernel
theorem C_nAddr (l n : Nat) (hl : l < 10) (hn : n < 12) : AC Tryz.prog f_q11 [avI l,avI n] (avU (addrL l n)):= by
 refine ac_q11 ?_ (Nat.le_add_left 2 _)
 simp only [go_sem,c_q11,avI,avU,avBin_shl 37 .u32 .u64 _ 8 (by decide) (by decide),bits_addr l hl n hn]
def linkL (i : Nat) : NLk:= ⟨nameN 108 i,addrL i 0,24⟩
def rtrL (i : Nat) : NRt:= ⟨nameN 114 i,1⟩
def portL (r l : Nat) : NPt:= ⟨r,l,addrL l (r + 1)⟩
theorem C_nLink (i : Nat) (hi : i < 10) : AC Tryz.prog f_q9 [avI i] (avLink (linkL i)):= by
 refine ac_q9 ?_ (Nat.le_add_left 1 _)
 simp only [go_sem,c_q9,avI]
 refine callX_of (C_name 108 i hi) ?_
 simp only [go_sem]
 refine callX_of (C_nAddr i 0 hi (by decide)) ?_
 simp only [go_sem,avLink,linkL,avU,avStr]
theorem C_nPort (r l : Nat) (hr : r < 10) (hl : l < 10) : AC Tryz.prog f_q10 [avI r,avI l] (avPort (portL r l)):= by
 refine ac_q10 ?_ (Nat.le_add_left 2 _)
 have hw:= wrap_succ r (by omega)
 simp only [go_sem,c_q10,avI,hw]
 refine callX_of (C_nAddr l (r + 1) hl (by omega)) ?_
 simp only [go_sem,avPort,portL,avU]
def rowO (t : List Nat) (e : Nat) (l : List AV) : AV:= if l = [] then .sl .nil 0 [] else .sl (.own t) e l
theorem rowO_nil (t : List Nat) (e : Nat) : rowO t e [] = .sl .nil 0 []:= rfl
theorem rowO_cons (t : List Nat) (e : Nat) (x : AV) (l : List AV) : rowO t e (x :: l) = .sl (.own t) e (x :: l):= rfl
theorem rowO_ne {t : List Nat} {e : Nat} {l : List AV} (h : l ≠ []) : rowO t e l = .sl (.own t) e l:= if_neg h
def links (k : Nat) : List NLk:= (List.range k).map linkL
def L1 (n root i : Nat) : Env:= mkE [(0,avI n),(1,avI root),(4,.lp 4 0),(5,.lp 5 0),(6,avI i)] [(4,nils),(5,[.sl .nil 0 [],rowO [21] 3 ((links i).map avLink),.sl .nil 0 [],.sl .nil 0 [],.sl .nil 0 [],.sl .nil 0 [],.sl .nil 0 []])]
def rtrs (k : Nat) : List NRt:= (List.range k).map rtrL
def prts (k : Nat) : List NPt:= (List.range k).flatMap fun i => [portL i i,portL i (i + 1)]
theorem prts_succ (k : Nat) : prts (k + 1) = prts k ++ [portL k k,portL k (k + 1)]:= by simp [prts,List.range_succ]
theorem prts_len : ∀ k,(prts k).length = 2 * k
 | 0 => rfl
 | k + 1 => by rw [prts_succ,List.length_append,prts_len k]; simp; omega
def roA (i k : Nat) : NRo:= ⟨i,addrL k 0,24,addrL i i,((i - k : Nat) : Int)⟩
def roB (i k : Nat) : NRo:= ⟨i,addrL k 0,24,addrL (i + 1) (i + 2),((k - i : Nat) : Int)⟩
def rtsK (i k : Nat) : List NRo:= (List.range k).flatMap fun k => (if k < i then [roA i k] else []) ++ (if i + 1 < k then [roB i k] else [])
def rtsI (n i : Nat) : List NRo:= (List.range i).flatMap fun i => rtsK i (n + 1)
theorem rtsK_succ (i k : Nat) : rtsK i (k + 1) = rtsK i k ++ ((if k < i then [roA i k] else []) ++ (if i + 1 < k then [roB i k] else [])):= by simp [rtsK,List.range_succ]
theorem rtsI_succ (n i : Nat) : rtsI n (i + 1) = rtsI n i ++ rtsK i (n + 1):= by simp [rtsI,List.range_succ]
theorem rtsK_len (i : Nat) : ∀ k,(rtsK i k).length ≤ k
 | 0 => Nat.le_refl 0
 | k + 1 => by
  have:= rtsK_len i k
  rw [rtsK_succ,List.length_append,List.length_append]
  split <;> split <;> simp <;> omega
theorem rtsI_len (n : Nat) : ∀ i,(rtsI n i).length ≤ i * (n + 1)
 | 0 => Nat.zero_le _
 | i + 1 => by
  have:= rtsI_len n i
  have:= rtsK_len i (n + 1)
  rw [rtsI_succ,List.length_append,Nat.succ_mul]
  omega
theorem links_get {n k : Nat} (h : k < n) : (links n)[k]? = some (linkL k):= by simp [links,h]
theorem rts_len (n i k : Nat) (hn : n < 9) (hi : i < 9) (hk : k < 10) : (rtsI n i ++ rtsK i k).length ≤ 1000:= by
 have h1:= rtsI_len n i
 have h2:= rtsK_len i k
 have h3 : i * (n + 1) ≤ 9 * 10:= Nat.mul_le_mul (by omega) (by omega)
 rw [List.length_append]
 omega
def LC (n t : Nat) (rows : List AV) : List (Nat × List AV):= [(4,nils),(5,[rowO [34] 2 ((rtrs n).map avRouter),.sl (.own [21]) 3 ((links (n + 1)).map avLink),rowO [46] 3 ((prts n).map avPort),rowO [t] 5 rows,.sl .nil 0 [],.sl .nil 0 [],.sl .nil 0 []])]
def L3 (n root i t : Nat) : Env:= mkE [(0,avI n),(1,avI root),(4,.lp 4 0),(5,.lp 5 0),(8,avI i)] (LC n t ((rtsI n i).map avRoute))
def L4 (n root i k t : Nat) : Env:= mkE [(0,avI n),(1,avI root),(4,.lp 4 0),(5,.lp 5 0),(8,avI i),(9,avI k)] (LC n t ((rtsI n i ++ rtsK i k).map avRoute))
def L2 (n root i : Nat) : Env:= mkE [(0,avI n),(1,avI root),(4,.lp 4 0),(5,.lp 5 0),(7,avI i)] [(4,nils),(5,[rowO [34] 2 ((rtrs i).map avRouter),.sl (.own [21]) 3 ((links (n + 1)).map avLink),rowO [46] 3 ((prts i).map avPort),.sl .nil 0 [],.sl .nil 0 [],.sl .nil 0 [],.sl .nil 0 []])]
def lineO (n root : Nat) : List AV:= [.sl (.own [34]) 2 ((rtrs n).map avRouter),.sl (.own [21]) 3 ((links (n + 1)).map avLink),.sl (.own [46]) 3 ((prts n).map avPort),rowO [78] 5 ((rtsI n n).map avRoute),.sl (.own [111]) 3 [avRange ⟨3758096384,4,addrL root (root + 1)⟩],.sl .nil 0 [],.sl .nil 0 []]
theorem resOK_rowO (t : List Nat) (e : Nat) (l : List AV) : resOK (rowO t e l) = true:= by
 unfold rowO
 split <;> rfl
theorem resOK_line (n root : Nat) : resOK (.agg (lineO n root)) = true:= by
 have:= resOK_rowO [78] 5 ((rtsI n n).map avRoute)
 simp only [lineO,resOK,resOKL,this,Bool.and_self]
theorem C_LineO (n root : Nat) (hn0 : 0 < n) (hn : n < 9) (hr : root < 9) : AC Tryz.prog f_q16 [avI n,avI root] (.agg (lineO n root)):= by
 refine ac_q16 ?_ (Nat.le_add_left 2 _) (resOK_line n root)
 simp only [go_sem,c_q16,avI]
 refine aw_loop (fun m E => ∃ i : Nat,i + m = n + 1 ∧ E = L1 n root i) (n + 1) ?_ ?_
 ·exact ⟨0,by omega,by simp only [go_sem,L1]; rfl⟩
 ·rintro m _ ⟨i,him,rfl⟩
  by_cases hil : i ≤ n
  ·have f1 : ((i : Int) ≤ (n : Int)) = True:= eq_true (by omega)
   have hw:= wrap_succ i (by omega)
   cases i with
   | zero =>
    simp only [go_sem,L1,links,List.range_zero,List.map_nil,rowO_nil,avI,f1,decide_true]
    refine callX_of (C_nLink 0 (by decide)) ?_
    have ea : ∀ s c,avApp 3 32 [] 21 s c (.sl .nil 0 []) (.sl (.own [20]) 3 [avLink (linkL 0)]) = _:= fun s c => avApp_nil (d:= 21) (s:= s) (c:= c) 3 32 0 [] [] [avLink (linkL 0)] (.own [20]) (by decide) (by decide)
    simp only [go_sem,avLink,avU,avStr] at ea ⊢
    simp only [go_sem,ea]
    exact ⟨m - 1,by omega,1,by omega,rfl⟩
   | succ j =>
    have e1 : (links (j + 1 + 1)).map avLink = (links (j + 1)).map avLink ++ [avLink (linkL (j + 1))]:= by simp [links,List.range_succ]
    have e2 : rowO [21] 3 ((links (j + 1)).map avLink) = .sl (.own [21]) 3 ((links (j + 1)).map avLink):= rowO_ne (by simp [links])
    have e3 : rowO [21] 3 ((links (j + 1)).map avLink ++ [avLink (linkL (j + 1))]) = .sl (.own [21]) 3 ((links (j + 1)).map avLink ++ [avLink (linkL (j + 1))]):= rowO_ne (by simp)
    have hlen : ((links (j + 1)).map avLink).length + [avLink (linkL (j + 1))].length ≤ 4294967296:= by simp [links]; omega
    simp only [L1,e2]
    have hL:= C_nLink (j + 1) (by omega)
    have ea : ∀ s c,avApp 3 32 [] 21 s c (.sl (.own [21]) 3 ((links (j + 1)).map avLink)) (.sl (.own [20]) 3 [avLink (linkL (j + 1))]) = _:= fun s c => avApp_own (d:= 21) (s:= s) (c:= c) 3 32 [] [21] ((links (j + 1)).map avLink) [avLink (linkL (j + 1))] (.own [20]) hlen (by decide) rfl
    generalize (links (j + 1)).map avLink = R at *
    simp only [go_sem,avI,f1,decide_true]
    refine callX_of hL ?_
    simp only [go_sem,avLink,avU,avStr] at ea ⊢
    simp only [go_sem,ea,hw]
    refine ⟨m - 1,by omega,j + 1 + 1,by omega,?_⟩
    rw [e1,e3]
    rfl
  ·have f1 : ((i : Int) ≤ (n : Int)) = False:= eq_false (by omega)
   have ei : i = n + 1:= by omega
   subst ei
   have e2 : rowO [21] 3 ((links (n + 1)).map avLink) = .sl (.own [21]) 3 ((links (n + 1)).map avLink):= rowO_ne (by simp [links])
   simp only [go_sem,L1,e2,avI,f1,decide_false]
   refine aw_loop (fun m E => ∃ i : Nat,i + m = n ∧ E = L2 n root i) n ?_ ?_
   ·exact ⟨0,by omega,rfl⟩
   ·rintro m _ ⟨i,him,rfl⟩
    by_cases hil : i < n
    ·have f1 : ((i : Int) < (n : Int)) = True:= eq_true (by omega)
     have hw:= wrap_succ i (by omega)
     have hN:= C_name 114 i (by omega)
     have hP1:= C_nPort i i (by omega) (by omega)
     have hP2:= C_nPort i (i + 1) (by omega) (by omega)
     cases i with
     | zero =>
      simp only [go_sem,L2,rtrs,prts,List.range_zero,List.map_nil,List.flatMap_nil,rowO_nil,avI,f1,decide_true]
      refine callX_of hN ?_
      have ea : ∀ s c,avApp 2 24 [] 34 s c (.sl .nil 0 []) (.sl (.own [33]) 2 [avRouter (rtrL 0)]) = _:= fun s c => avApp_nil (d:= 34) (s:= s) (c:= c) 2 24 0 [] [] [avRouter (rtrL 0)] (.own [33]) (by decide) (by decide)
      have eb : ∀ s c,avApp 3 24 [] 46 s c (.sl .nil 0 []) (.sl (.own [45]) 3 [avPort (portL 0 0),avPort (portL 0 (0 + 1))]) = _:= fun s c => avApp_nil (d:= 46) (s:= s) (c:= c) 3 24 0 [] [] [avPort (portL 0 0),avPort (portL 0 (0 + 1))] (.own [45]) (by decide) (by decide)
      simp only [go_sem,avRouter,rtrL,avU,avStr] at ea ⊢
      simp only [go_sem,ea]
      refine callX_of hP1 ?_
      simp only [go_sem,hw]
      refine callX_of hP2 ?_
      simp only [go_sem,avPort,avU] at eb ⊢
      simp only [go_sem,eb,hw]
      exact ⟨m - 1,by omega,1,by omega,rfl⟩
     | succ j =>
      have e1 : (rtrs (j + 1 + 1)).map avRouter = (rtrs (j + 1)).map avRouter ++ [avRouter (rtrL (j + 1))]:= by simp [rtrs,List.range_succ]
      have e1' : (prts (j + 1 + 1)).map avPort = (prts (j + 1)).map avPort ++ [avPort (portL (j + 1) (j + 1)),avPort (portL (j + 1) (j + 1 + 1))]:= by simp [prts,List.range_succ]
      have e2 : rowO [34] 2 ((rtrs (j + 1)).map avRouter) = .sl (.own [34]) 2 ((rtrs (j + 1)).map avRouter):= rowO_ne (by simp [rtrs])
      have e2' : rowO [46] 3 ((prts (j + 1)).map avPort) = .sl (.own [46]) 3 ((prts (j + 1)).map avPort):= rowO_ne (by simp [prts,List.range_succ])
      have e3 : rowO [34] 2 ((rtrs (j + 1)).map avRouter ++ [avRouter (rtrL (j + 1))]) = .sl (.own [34]) 2 ((rtrs (j + 1)).map avRouter ++ [avRouter (rtrL (j + 1))]):= rowO_ne (by simp)
      have e3' : rowO [46] 3 ((prts (j + 1)).map avPort ++ [avPort (portL (j + 1) (j + 1)),avPort (portL (j + 1) (j + 1 + 1))]) = .sl (.own [46]) 3 ((prts (j + 1)).map avPort ++ [avPort (portL (j + 1) (j + 1)),avPort (portL (j + 1) (j + 1 + 1))]):= rowO_ne (by simp)
      have hlen : ((rtrs (j + 1)).map avRouter).length + [avRouter (rtrL (j + 1))].length ≤ 4294967296:= by simp [rtrs]; omega
      have hlen' : ((prts (j + 1)).map avPort).length + [avPort (portL (j + 1) (j + 1)),avPort (portL (j + 1) (j + 1 + 1))].length ≤ 4294967296:= by
       have:= prts_len (j + 1)
       simp [this]; omega
      simp only [L2,e2,e2']
      have ea : ∀ s c,avApp 2 24 [] 34 s c (.sl (.own [34]) 2 ((rtrs (j + 1)).map avRouter)) (.sl (.own [33]) 2 [avRouter (rtrL (j + 1))]) = _:= fun s c => avApp_own (d:= 34) (s:= s) (c:= c) 2 24 [] [34] ((rtrs (j + 1)).map avRouter) [avRouter (rtrL (j + 1))] (.own [33]) hlen (by decide) rfl
      have eb : ∀ s c,avApp 3 24 [] 46 s c (.sl (.own [46]) 3 ((prts (j + 1)).map avPort)) (.sl (.own [45]) 3 [avPort (portL (j + 1) (j + 1)),avPort (portL (j + 1) (j + 1 + 1))]) = _:= fun s c => avApp_own (d:= 46) (s:= s) (c:= c) 3 24 [] [46] ((prts (j + 1)).map avPort) [avPort (portL (j + 1) (j + 1)),avPort (portL (j + 1) (j + 1 + 1))] (.own [45]) hlen' (by decide) rfl
      generalize (rtrs (j + 1)).map avRouter = R at *
      generalize (prts (j + 1)).map avPort = Q at *
      simp only [go_sem,avI,f1,decide_true]
      refine callX_of hN ?_
      simp only [go_sem,avRouter,rtrL,avU,avStr] at ea ⊢
      simp only [go_sem,ea]
      refine callX_of hP1 ?_
      simp only [go_sem,hw]
      refine callX_of hP2 ?_
      simp only [go_sem,avPort,avU] at eb ⊢
      simp only [go_sem,eb,hw]
      refine ⟨m - 1,by omega,j + 1 + 1,by omega,?_⟩
      rw [e1,e1',e3,e3']
      rfl
    ·have f1 : ((i : Int) < (n : Int)) = False:= eq_false (by omega)
     have ei : n = i:= by omega
     subst ei
     simp only [go_sem,L2,avI,f1,decide_false]
     refine aw_loop (fun m E => ∃ i t : Nat,i + m = n ∧ (t = 78 ∨ t = 103) ∧ (i = n → 2 ≤ n → t = 78) ∧ E = L3 n root i t) n ?_ ?_
     ·exact ⟨0,78,by omega,.inl rfl,fun _ _ => rfl,rfl⟩
     ·rintro m _ ⟨i,t,him,ht,ht2,rfl⟩
      by_cases hil : i < n
      ·have f1 : ((i : Int) < (n : Int)) = True:= eq_true (by omega)
       have hw:= wrap_succ i (by omega)
       have er : rowO [34] 2 ((rtrs n).map avRouter) = .sl (.own [34]) 2 ((rtrs n).map avRouter):= rowO_ne (by simp [rtrs]; omega)
       have ep : rowO [46] 3 ((prts n).map avPort) = .sl (.own [46]) 3 ((prts n).map avPort):= rowO_ne (by
        intro e
        have:= congrArg List.length e
        rw [List.length_map,prts_len] at this
        simp at this
        omega)
       simp only [go_sem,L3,avI,f1,decide_true,LC]
       refine aw_loop (fun m E => ∃ k t : Nat,k + m = n + 1 ∧ (t = 78 ∨ t = 103) ∧ (i + 1 = n → 1 ≤ k → 1 ≤ i → t = 78) ∧ E = L4 n root i k t) (n + 1) ?_ ?_
       ·refine ⟨0,t,by omega,ht,fun _ h => absurd h (by omega),?_⟩
        simp only [go_sem,L4,LC,rtsK,List.range_zero,List.flatMap_nil,List.append_nil,avI,Int.natCast_zero]
       ·rintro m2 _ ⟨k,t,hkm,ht,ht3,rfl⟩
        by_cases hkn : k ≤ n
        ·have g1 : ((k : Int) ≤ (n : Int)) = True:= eq_true (by omega)
         have hw2:= wrap_succ k (by omega)
         by_cases hki : k < i
         ·have g2 : ((k : Int) < (i : Int)) = True:= eq_true (by omega)
          have g3 : ((k : Int) > ((i + 1 : Nat) : Int)) = False:= eq_false (by omega)
          have g4 : (((i + 1 : Nat) : Int) < (k : Int)) = False:= eq_false (by omega)
          have hA:= C_nAddr i i (by omega) (by omega)
          have hws : IntKind.wrap .i64 ((i : Int) - (k : Int)) = ((i - k : Nat) : Int):= by
           have:= wrap_nat (i - k) (by omega)
           rwa [show ((i - k : Nat) : Int) = (i : Int) - (k : Int) by omega] at this ⊢
          have e1 : (rtsI n i ++ rtsK i (k + 1)).map avRoute = (rtsI n i ++ rtsK i k).map avRoute ++ [avRoute (roA i k)]:= by
           rw [rtsK_succ,if_pos hki,if_neg (by omega)]
           simp
          have hl:= links_get (n:= n + 1) (k:= k) (by omega)
          have hlen:= rts_len n i k (by omega) (by omega) (by omega)
          simp only [L4,LC,e1,er,ep]
          have hR : ((rtsI n i ++ rtsK i k).map avRoute).length ≤ 1000:= by rw [List.length_map]; exact hlen
          generalize (rtsI n i ++ rtsK i k).map avRoute = R at *
          have hr3:= fun cs => avRow_some 3 (.own [21]) (AV.agg cs) rfl
          cases R with
          | nil =>
           have ea : ∀ s c,avApp 5 40 [] 78 s c (.sl .nil 0 []) (.sl (.own [77]) 5 [avRoute (roA i k)]) = _:= fun s c => avApp_nil (d:= 78) (s:= s) (c:= c) 5 40 0 [] [] [avRoute (roA i k)] (.own [77]) (by simp) (by decide)
           simp only [go_sem,avI,g1,g2,g3,g4,hw,decide_true,decide_false,rowO_nil,Int.natCast_nonneg,Int.toNat_natCast,List.getElem?_map,hl,Option.map_some,avLink,avU,hr3]
           refine callX_of hA ?_
           simp only [go_sem,avRoute,roA,avU,hws,linkL] at ea ⊢
           simp only [go_sem,ea,g1,g2,g3,g4,hw,decide_true,decide_false,hw2]
           exact ⟨m2 - 1,by omega,k + 1,78,by omega,.inl rfl,fun _ _ _ => rfl,by rw [e1]; rfl⟩
          | cons r rs =>
           have ea : ∀ s c,avApp 5 40 [] 78 s c (.sl (.own [t]) 5 (r :: rs)) (.sl (.own [77]) 5 [avRoute (roA i k)]) = _:= fun s c => avApp_own (d:= 78) (s:= s) (c:= c) 5 40 [] [t] (r :: rs) [avRoute (roA i k)] (.own [77]) (by simp at hR ⊢; omega) (by decide) rfl
           simp only [go_sem,avI,g1,g2,g3,g4,hw,decide_true,decide_false,rowO_cons,Int.natCast_nonneg,Int.toNat_natCast,List.getElem?_map,hl,Option.map_some,avLink,avU,hr3]
           refine callX_of hA ?_
           simp only [go_sem,avRoute,roA,avU,hws,linkL] at ea ⊢
           rcases ht with rfl | rfl
           all_goals
            simp only [go_sem,ea,g1,g2,g3,g4,hw,decide_true,decide_false,hw2]
            exact ⟨m2 - 1,by omega,k + 1,78,by omega,.inl rfl,fun _ _ _ => rfl,by rw [e1]; rfl⟩
         ·have g2 : ((k : Int) < (i : Int)) = False:= eq_false (by omega)
          by_cases hki2 : i + 1 < k
          ·have g3 : ((k : Int) > ((i + 1 : Nat) : Int)) = True:= eq_true (by omega)
           have g4 : (((i + 1 : Nat) : Int) < (k : Int)) = True:= eq_true (by omega)
           have hw3 : IntKind.wrap .i64 ((i : Int) + 2) = ((i + 2 : Nat) : Int):= wrap_nat (i + 2) (by omega)
           have hA:= C_nAddr (i + 1) (i + 2) (by omega) (by omega)
           have hws : IntKind.wrap .i64 ((k : Int) - (i : Int)) = ((k - i : Nat) : Int):= by
            have:= wrap_nat (k - i) (by omega)
            rwa [show ((k - i : Nat) : Int) = (k : Int) - (i : Int) by omega] at this ⊢
           have e1 : (rtsI n i ++ rtsK i (k + 1)).map avRoute = (rtsI n i ++ rtsK i k).map avRoute ++ [avRoute (roB i k)]:= by
            rw [rtsK_succ,if_neg (by omega),if_pos (by omega)]
            simp
           have hl:= links_get (n:= n + 1) (k:= k) (by omega)
           have hlen:= rts_len n i k (by omega) (by omega) (by omega)
           simp only [L4,LC,e1,er,ep]
           have hR : ((rtsI n i ++ rtsK i k).map avRoute).length ≤ 1000:= by rw [List.length_map]; exact hlen
           generalize (rtsI n i ++ rtsK i k).map avRoute = R at *
           have hr3:= fun cs => avRow_some 3 (.own [21]) (AV.agg cs) rfl
           cases R with
           | nil =>
            have ea : ∀ s c,avApp 5 40 [] 103 s c (.sl .nil 0 []) (.sl (.own [102]) 5 [avRoute (roB i k)]) = _:= fun s c => avApp_nil (d:= 103) (s:= s) (c:= c) 5 40 0 [] [] [avRoute (roB i k)] (.own [102]) (by simp) (by decide)
            simp only [go_sem,avI,g1,g2,g3,g4,hw,hw3,decide_true,decide_false,rowO_nil,Int.natCast_nonneg,Int.toNat_natCast,List.getElem?_map,hl,Option.map_some,avLink,avU,hr3]
            refine callX_of hA ?_
            simp only [go_sem,avRoute,roB,avU,hws,linkL] at ea ⊢
            simp only [go_sem,ea,g1,g2,g3,g4,hw,hw3,decide_true,decide_false,hw2]
            exact ⟨m2 - 1,by omega,k + 1,103,by omega,.inr rfl,fun h => absurd h (by omega),by rw [e1]; rfl⟩
           | cons r rs =>
            have ea : ∀ s c,avApp 5 40 [] 103 s c (.sl (.own [t]) 5 (r :: rs)) (.sl (.own [102]) 5 [avRoute (roB i k)]) = _:= fun s c => avApp_own (d:= 103) (s:= s) (c:= c) 5 40 [] [t] (r :: rs) [avRoute (roB i k)] (.own [102]) (by simp at hR ⊢; omega) (by decide) rfl
            simp only [go_sem,avI,g1,g2,g3,g4,hw,hw3,decide_true,decide_false,rowO_cons,Int.natCast_nonneg,Int.toNat_natCast,List.getElem?_map,hl,Option.map_some,avLink,avU,hr3]
            refine callX_of hA ?_
            simp only [go_sem,avRoute,roB,avU,hws,linkL] at ea ⊢
            rcases ht with rfl | rfl
            all_goals
             simp only [go_sem,ea,g1,g2,g3,g4,hw,hw3,decide_true,decide_false,hw2]
             exact ⟨m2 - 1,by omega,k + 1,103,by omega,.inr rfl,fun h => absurd h (by omega),by rw [e1]; rfl⟩
          ·have g3 : ((k : Int) > ((i + 1 : Nat) : Int)) = False:= eq_false (by omega)
           have g4 : (((i + 1 : Nat) : Int) < (k : Int)) = False:= eq_false (by omega)
           have e1 : (rtsI n i ++ rtsK i (k + 1)).map avRoute = (rtsI n i ++ rtsK i k).map avRoute:= by
            rw [rtsK_succ,if_neg (by omega),if_neg (by omega)]
            simp
           simp only [L4,LC,e1,er,ep]
           simp only [go_sem,avI,g1,g2,g3,g4,hw,hw2,decide_true,decide_false]
           exact ⟨m2 - 1,by omega,k + 1,t,by omega,ht,fun h1 _ h2 => ht3 h1 (by omega) h2,by rw [e1]⟩
        ·have g1 : ((k : Int) ≤ (n : Int)) = False:= eq_false (by omega)
         have ek : k = n + 1:= by omega
         subst ek
         simp only [go_sem,L4,LC,avI,g1,decide_false,hw]
         refine ⟨m - 1,by omega,i + 1,t,by omega,ht,fun h1 h2 => ht3 h1 (by omega) (by omega),?_⟩
         rw [rtsI_succ]
      ·have f1 : ((i : Int) < (n : Int)) = False:= eq_false (by omega)
       have ei : n = i:= by omega
       subst ei
       simp only [go_sem,L3,LC,avI,f1,decide_false]
       have hw:= wrap_succ root (by omega)
       have er : rowO [34] 2 ((rtrs n).map avRouter) = .sl (.own [34]) 2 ((rtrs n).map avRouter):= rowO_ne (by simp [rtrs]; omega)
       have ep : rowO [46] 3 ((prts n).map avPort) = .sl (.own [46]) 3 ((prts n).map avPort):= rowO_ne (by
        intro e
        have:= congrArg List.length e
        rw [List.length_map,prts_len] at this
        simp at this
        omega)
       refine callX_of C_rGroups ?_
       simp only [go_sem,avPfx,hw,er,ep]
       refine callX_of (C_nAddr root (root + 1) (by omega) (by omega)) ?_
       simp only [lineO]
       by_cases h2 : 2 ≤ n
       ·obtain rfl:= ht2 rfl h2
        generalize (rtsI n n).map avRoute = R
        cases R with
        | nil => simp only [go_sem,rowO_nil,avU,nils,avRange]
        | cons r rs => simp only [go_sem,rowO_cons,avU,nils,avRange]
       ·have e0 : (rtsI n n).map avRoute = []:= by
         obtain rfl : n = 1:= by omega
         rfl
        simp only [go_sem,e0,rowO_nil,avU,nils,avRange]
theorem rep_own {F : RE} {τ : List Nat} {e : Nat} {rows : List AV} {v : Value} (h : Rep F (.sl (.own τ) e rows) v) : Rep F (.sl .none e rows) v:= by
 simp only [Rep] at h ⊢
 obtain ⟨A,cap,vs,rfl,h1,h2,h3,h4,h5⟩:= h
 refine ⟨A,cap,vs,rfl,h1,h2,h3,h4,fun hne => ?_⟩
 rcases h5 with ⟨_,h0⟩ | ⟨g,cur,ty,rfl,hat,_⟩
 ·have : rows.length = 0:= by omega
  exact absurd (List.length_eq_zero_iff.1 this) hne
 ·exact ⟨g,0,rfl,hat⟩
theorem wk_own (τ : List Nat) (e : Nat) (rows : List AV) : Wk (.sl (.own τ) e rows) (.sl .none e rows):= fun _ _ h => rep_own h
theorem wk_rowO (τ : List Nat) (e : Nat) (rows : List AV) : Wk (rowO τ e rows) (.sl .none e rows):= by
 unfold rowO
 split
 ·rename_i h
  subst h
  exact wk_nil 0 e
 ·exact wk_own τ e rows
def lineW (n root : Nat) : NW:= ⟨rtrs n,links (n + 1),prts n,rtsI n n,[⟨3758096384,4,addrL root (root + 1)⟩],[],[]⟩
theorem C_Line (n root : Nat) (hn0 : 0 < n) (hn : n < 9) (hr : root < 9) : AC Tryz.prog f_q16 [avI n,avI root] (.agg (netV (lineW n root))) :=
 AC_weak (C_LineO n root hn0 hn hr) (wk_agg ⟨wk_own _ _ _,wk_own _ _ _,wk_own _ _ _,wk_rowO _ _ _,wk_own _ _ _,wk_nil _ _,wk_nil _ _,trivial⟩)
end Go.Proofs.YtjceingdmfogeaaGreatDoor.VL
end

section
set_option maxHeartbeats 4000000
namespace Go.Proofs.YtjceingdmfogeaaGreatDoor.VL
open Go.RowKit Go.Proofs
def nestW (n : Nat) : NW:= ⟨[⟨⟨#[97]⟩,0⟩],(List.range n).map fun i : Nat => ⟨nameN 108 i,167772160,8 + 4 * (i : Int)⟩,(List.range n).map fun i : Nat => ⟨0,(i : Int),167772160 + i + 1⟩,[],[],[],[]⟩
theorem nest_v : ∀ n,n < 5 → vNet (nestW (n + 1)) = none:= by decide +kernel
theorem nest_ok (n : Nat) (h : n < 5) : (nestW (n + 1)).OK:= by
 have : n = 0 ∨ n = 1 ∨ n = 2 ∨ n = 3 ∨ n = 4:= by omega
 rcases this with rfl | rfl | rfl | rfl | rfl <;> (constructor <;> decide +kernel)
def nestB (n k : Nat) : Bool:= decide (conW (nestW (n + 1)) 0 (167772160 ||| 2 ^ (23 - k)) = ((min (k / 4) n : Nat) : Int)) && decide (lookN (nestW (n + 1)) 0 6 (167772160 ||| 2 ^ (23 - k)) = some (min (k / 4) n,0,0))
theorem nest_con : ∀ n,n < 5 → ∀ k,k < 24 → nestB n k = true:= by decide +kernel
end Go.Proofs.YtjceingdmfogeaaGreatDoor.VL
end

section
set_option maxHeartbeats 4000000
namespace Go.Proofs.YtjceingdmfogeaaGreatDoor.VL
open Go.RowKit Go.Proofs
theorem of_mem {w : NW} {r : Int} {p : Nat} (h : p ∈ ofW w r) : p < w.pts.length:= by
 simp only [ofW,atF] at h
 split at h
 ·exact (mem_idx.1 h).1
 ·cases h
theorem ofW_len (w : NW) (r : Int) : (ofW w r).length ≤ w.pts.length:= by
 simp only [ofW,atF]
 split
 ·exact idxK_len _ _
 ·exact Nat.zero_le _
theorem pfx_of {w : NW} (hv : vNet w = none) {p : Nat} {x : NPt} (hx : w.pts[p]? = some x) : ∃ (k : Nat) (y : NLk),x.lk = (k : Int) ∧ w.lks[k]? = some y ∧ pfxW w p = y:= by
 obtain ⟨k,hk,hkl⟩:= (portOK hv hx).lk
 have hy : w.lks[k]? = some w.lks[k]:= List.getElem?_eq_getElem hkl
 exact ⟨k,_,hk,hy,by simp [pfxW,hx,hk,hy]⟩
def con0 (c : Int) : Int:= if 0 > c then 0 else c
theorem C_Connected (w : NW) (h : w.OK) (hf : w.Fit) (hv : vNet w = none) (r : Int) (a : Nat) (ha : a < 4294967296) :
  AC Tryz.prog f_q6 [.rp (topoV w),.lit (.int .i64 r),avU a] (.tup [.lit (.int .i64 (con0 (conW w r a))),.lit (.bool (decide (0 ≤ conW w r a)))]):= by
 refine ac_q6 ?_ (Nat.le_add_left 3 _)
 simp only [go_sem,c_q6,avU]
 refine callX_of (C_Raw w) ?_
 simp only [go_sem]
 refine callX_of (C_OfT w hf r) ?_
 have hm:= fun p (hp : p ∈ ofW w r) => of_mem hp
 have hlen:= ofW_len w r
 have h3:= hf.l3
 simp only [go_sem,List.length_map]
 unfold conW
 generalize ofW w r = L at *
 refine aw_loop (fun m E => ∃ i : Nat,i + m = L.length ∧ E = mkE [(2,avU a),(8,.rp (netV w)),(9,.lit (.int .i64 (conS w a L i).1)),(10,.lit (.int .i64 (conS w a L i).2)),(18,.sl .none 1 (L.map avI)),(19,.lit (.int .i64 (L.length : Nat))),(20,.lit (.int .i64 (i : Nat)))] []) L.length ?_ ?_
 ·exact ⟨0,by omega,rfl⟩
 ·rintro m _ ⟨i,him,rfl⟩
  have hrI:= fun x => avRow_some 1 .none (AV.lit x) rfl
  by_cases hil : i < L.length
  ·have f1 : ((i : Int) < (L.length : Int)) = True:= eq_true (by omega)
   have hw:= wrap_succ i (by omega)
   obtain ⟨p,hp⟩ : ∃ p,L[i]? = some p:= ⟨L[i],List.getElem?_eq_getElem hil⟩
   have hpl:= hm p (List.mem_of_getElem? hp)
   obtain ⟨x,hx⟩ : ∃ x,w.pts[p]? = some x:= ⟨w.pts[p],List.getElem?_eq_getElem hpl⟩
   obtain ⟨k,y,hk,hy,hpf⟩:= pfx_of hv hx
   have hs:= conS_succ (w:= w) (a:= a) hp
   rw [conStep,hpf] at hs
   have hI:= C_In y.a y.b a (h.lka y (List.mem_of_getElem? hy)) ha
   generalize conS w a L i = S at *
   simp only [avPfx,avU] at hI
   simp only [go_sem,avI,avU,f1,netV,decide_true,Int.natCast_nonneg,Int.toNat_natCast,List.getElem?_map,hp,hx,hk,hy,hrI,Option.map_some,rowAgg,avPort,avLink,avStr]
   refine callX_of hI ?_
   cases hin : inN y.a y.b a
   ·rw [hin] at hs
    simp only [go_sem,hw]
    exact ⟨m - 1,by omega,i + 1,by omega,by rw [hs]; rfl⟩
   ·rw [hin] at hs
    by_cases hlt : S.2 < y.b
    ·have g1 : (S.2 < y.b) = True:= eq_true hlt
     have g2 : (y.b > S.2) = True:= eq_true hlt
     simp only [g1,decide_true,Bool.and_self,if_true] at hs
     simp only [go_sem,g1,g2,decide_true,hw]
     exact ⟨m - 1,by omega,i + 1,by omega,by rw [hs]⟩
    ·have g1 : (S.2 < y.b) = False:= eq_false hlt
     have g2 : (y.b > S.2) = False:= eq_false hlt
     simp only [g1,decide_false,Bool.and_false,Bool.false_eq_true,if_false] at hs
     simp only [go_sem,g1,g2,decide_false,hw]
     exact ⟨m - 1,by omega,i + 1,by omega,by rw [hs]⟩
  ·have f1 : ((i : Int) < (L.length : Int)) = False:= eq_false (by omega)
   have e : i = L.length:= by omega
   subst e
   simp only [go_sem,f1,decide_false,avMm_max,con0]
theorem kill_rowO (n : Nat) (t : List Nat) (e : Nat) (l : List AV) : kill n (rowO t e l) = rowO t e l:= by
 unfold rowO
 split <;> rfl
theorem C_Routes (w : NW) (h : w.OK) (hf : w.Fit) (hv : vNet w = none) (r : Int) (a : Nat) (ha : a < 4294967296) :
  AC Tryz.prog f_q55 [.rp (topoV w),.lit (.int .i64 r),avU a] (.sl .none 1 ((rouW w r a).map avI)):= by
 have h4:= hf.l4
 refine ac_q55 ?_ (Nat.le_add_left 3 _)
 simp only [go_sem,c_q55,avU]
 refine callX_of (C_Raw w) ?_
 simp only [go_sem,netV,List.length_map]
 refine aw_loop (fun m E => ∃ i t : Nat,i + m = w.ros.length ∧ (t = 55 ∨ t = 25) ∧ E = mkE [(1,.lit (.int .i64 r)),(2,avU a),(7,.lit (.int .i64 (rouS w r a i).1)),(8,rowO [t] 1 ((rouS w r a i).2.map avI)),(15,.sl .none 5 (w.ros.map avRoute)),(16,.lit (.int .i64 (w.ros.length : Nat))),(17,.lit (.int .i64 (i : Nat)))] []) w.ros.length ?_ ?_
 ·exact ⟨0,55,by omega,.inl rfl,rfl⟩
 ·rintro m _ ⟨i,t,him,ht,rfl⟩
  have hrI:= fun x => avRow_some 1 .none (AV.lit x) rfl
  by_cases hil : i < w.ros.length
  ·have f1 : ((i : Int) < (w.ros.length : Int)) = True:= eq_true (by omega)
   have hw:= wrap_succ i (by omega)
   obtain ⟨x,hx⟩ : ∃ x,w.ros[i]? = some x:= ⟨w.ros[i],List.getElem?_eq_getElem hil⟩
   have hs:= rouS_succ w r a i
   rw [rouStep,hx] at hs
   simp only at hs
   have hI:= C_In x.a x.b a (h.roa x (List.mem_of_getElem? hx)) ha
   have hl:= (rouS_ok w r a i (by omega)).2
   generalize rouS w r a i = S at *
   simp only [avPfx,avU] at hI
   have same : ∀ (E : Env),(rouS w r a (i + 1)) = S → E = mkE [(1,.lit (.int .i64 r)),(2,avU a),(7,.lit (.int .i64 S.1)),(8,rowO [t] 1 (S.2.map avI)),(15,.sl .none 5 (w.ros.map avRoute)),(16,.lit (.int .i64 (w.ros.length : Nat))),(17,.lit (.int .i64 (i + 1 : Nat)))] [] → ∃ k,k < m ∧ ∃ i t : Nat,i + k = w.ros.length ∧ (t = 55 ∨ t = 25) ∧ E = mkE [(1,.lit (.int .i64 r)),(2,avU a),(7,.lit (.int .i64 (rouS w r a i).1)),(8,rowO [t] 1 ((rouS w r a i).2.map avI)),(15,.sl .none 5 (w.ros.map avRoute)),(16,.lit (.int .i64 (w.ros.length : Nat))),(17,.lit (.int .i64 (i : Nat)))] []:= by
    rintro E e1 rfl
    exact ⟨m - 1,by omega,i + 1,t,by omega,ht,by rw [e1]⟩
   have hk8 : ∀ n,kill n (rowO [t] 1 (S.2.map avI)) = rowO [t] 1 (S.2.map avI):= fun n => kill_rowO n _ _ _
   generalize hR : rowO [t] 1 (S.2.map avI) = R8 at same hk8
   cases hr : x.rt == r
   ·have hn : (x.rt != r) = true:= by rw [bne,hr]; rfl
    rw [hr] at hs
    simp only [Bool.not_false,Bool.true_or,if_true] at hs
    simp only [go_sem,hR,hk8,avU,f1,decide_true,Int.natCast_nonneg,Int.toNat_natCast,List.getElem?_map,hx,Option.map_some,rowAgg,avRoute,hn,hw]
    exact same _ hs rfl
   ·have hn : (x.rt != r) = false:= by rw [bne,hr]; rfl
    rw [hr] at hs
    by_cases hb : x.b < S.1
    ·have g1 : (x.b < S.1) = True:= eq_true hb
     simp only [g1,decide_true,Bool.not_true,Bool.true_or,Bool.or_true,if_true] at hs
     simp only [go_sem,hR,hk8,avU,f1,decide_true,Int.natCast_nonneg,Int.toNat_natCast,List.getElem?_map,hx,Option.map_some,rowAgg,avRoute,hn,g1,hw]
     exact same _ hs rfl
    ·have g1 : (x.b < S.1) = False:= eq_false hb
     simp only [go_sem,hR,hk8,avU,f1,decide_true,decide_false,Int.natCast_nonneg,Int.toNat_natCast,List.getElem?_map,hx,Option.map_some,rowAgg,avRoute,hn,g1]
     refine callX_of hI ?_
     cases hin : inN x.a x.b a
     ·rw [hin] at hs
      simp only [Bool.not_false,Bool.or_true,if_true] at hs
      simp only [go_sem,hk8,hw]
      exact same _ hs rfl
     ·rw [hin] at hs
      simp only [g1,decide_false,Bool.not_true,Bool.or_false,Bool.false_eq_true,if_false] at hs
      by_cases hlt : S.1 < x.b
      ·have g2 : (S.1 < x.b) = True:= eq_true hlt
       have g3 : (x.b > S.1) = True:= eq_true hlt
       rw [if_pos hlt] at hs
       simp only [go_sem,g2,g3,decide_true,hw]
       exact ⟨m - 1,by omega,i + 1,55,by omega,.inl rfl,by rw [hs]; rfl⟩
      ·have g2 : (S.1 < x.b) = False:= eq_false hlt
       have g3 : (x.b > S.1) = False:= eq_false hlt
       rw [if_neg hlt] at hs
       have e2 : (rouS w r a (i + 1)).2.map avI = S.2.map avI ++ [.lit (.int .i64 (i : Nat))]:= by rw [hs]; simp only [List.map_append]; rfl
       have e3 : (rouS w r a (i + 1)).1 = S.1:= by rw [hs]
       have hRl : (S.2.map avI).length ≤ 4294967295:= by rw [List.length_map]; omega
       subst hR
       generalize S.2.map avI = R at *
       cases R with
       | nil =>
        have ea : ∀ s c,avApp 1 8 [] 25 s c (.sl .nil 0 []) (.sl (.own [24]) 1 [.lit (.int .i64 (i : Nat))]) = _:= fun s c => avApp_nil (d:= 25) (s:= s) (c:= c) 1 8 0 [] [] [.lit (.int .i64 (i : Nat))] (.own [24]) (by simp) (by decide)
        simp only [go_sem,rowO_nil,g2,g3,decide_false,ea,hw]
        exact ⟨m - 1,by omega,i + 1,25,by omega,.inr rfl,by rw [e2,e3]; rfl⟩
       | cons z zs =>
        rcases ht with rfl | rfl
        ·have ea : ∀ s c,avApp 1 8 [] 25 s c (.sl (.own [55]) 1 (z :: zs)) (.sl (.own [24]) 1 [.lit (.int .i64 (i : Nat))]) = _:= fun s c => avApp_own (d:= 25) (s:= s) (c:= c) 1 8 [] [55] (z :: zs) [.lit (.int .i64 (i : Nat))] (.own [24]) (by simp at hRl ⊢; omega) (by decide) rfl
         simp only [go_sem,rowO_cons,g2,g3,decide_false,ea,hw]
         exact ⟨m - 1,by omega,i + 1,25,by omega,.inr rfl,by rw [e2,e3]; rfl⟩
        ·have ea : ∀ s c,avApp 1 8 [] 25 s c (.sl (.own [25]) 1 (z :: zs)) (.sl (.own [24]) 1 [.lit (.int .i64 (i : Nat))]) = _:= fun s c => avApp_own (d:= 25) (s:= s) (c:= c) 1 8 [] [25] (z :: zs) [.lit (.int .i64 (i : Nat))] (.own [24]) (by simp at hRl ⊢; omega) (by decide) rfl
         simp only [go_sem,rowO_cons,g2,g3,decide_false,ea,hw]
         exact ⟨m - 1,by omega,i + 1,25,by omega,.inr rfl,by rw [e2,e3]; rfl⟩
  ·have f1 : ((i : Int) < (w.ros.length : Int)) = False:= eq_false (by omega)
   have e : i = w.ros.length:= by omega
   subst e
   simp only [go_sem,f1,decide_false]
   refine shiftX_of (VS.tell (p:= .slot 8) (y:= .sl .none 1 ((rouW w r a).map avI)) rfl (wk_rowO _ _ _)) ?_
   rintro _ rfl
   rw [set_slot]
   simp only [go_sem]
end Go.Proofs.YtjceingdmfogeaaGreatDoor.VL
end

section
set_option maxHeartbeats 4000000
namespace Go.Proofs.YtjceingdmfogeaaGreatDoor.VL
open Go.RowKit Go.Proofs
def wayV (q : Nat × Nat × Int) : AV:= .agg [avI q.1,avU q.2.1,.lit (.int .i64 q.2.2)]
def way0 : AV:= .agg [.lit (.int .i64 0),.lit (.int .u32 0),.lit (.int .i64 0)]
def lookV : Option (Nat × Nat × Int) → AV
 | some q => .tup [wayV q,.lit (.bool true)]
 | none => .tup [way0,.lit (.bool false)]
theorem resOK_look (q : Option (Nat × Nat × Int)) : resOK (lookV q) = true:= by cases q <;> rfl
theorem bestR_snoc (w : NW) (j : Nat) : ∀ (l : List Nat) (b : Nat),bestR w (l ++ [j]) b = bestStep w (bestR w l b) j
 | [],b => rfl
 | i :: l,b => by
  simp only [List.cons_append,bestR]
  exact bestR_snoc w j l _
def roC (x : NRo) : List AV:= [.lit (.int .i64 x.rt),avU x.a,.lit (.int .i64 x.b),avU x.via,.lit (.int .i64 x.cost)]
theorem roAt_of {w : NW} {i : Nat} {x : NRo} (hx : w.ros[i]? = some x) : roAt w i = x:= by simp [roAt,hx]
theorem tailSl (i : Nat) (l : List Nat) : avSl 1 .none 1 ((i :: l).map avI) (some 1) (some ((((i :: l).map avI).length : Nat) : Int)) = some (.sl .none 1 (l.map avI)):= by
 rw [avSl_some 1 .none _ _ _ rfl (by simp; omega),Int.toNat_natCast,List.take_length]
 rfl
def atB (w : NW) (c : Int) (R : List Nat) : Bool:= decide (0 ≤ c) && match R with
 | [] => true
 | i :: _ => decide ((roAt w i).b ≤ (pfxW w c.toNat).b)
theorem atB_eq (w : NW) (r : Int) (a : Nat) : atW w r a = atB w (conW w r a) (rouW w r a):= rfl
theorem lookN_at {w : NW} {r : Int} {n a : Nat} (h : atW w r a = true) : lookN w r n a = some ((conW w r a).toNat,0,0):= by
 rw [lookN.eq_def]
 simp only
 rw [if_pos h]
theorem lookN_nil {w : NW} {r : Int} {n a : Nat} (h : atW w r a = false) (hr : rouW w r a = []) : lookN w r n a = none:= by
 rw [lookN.eq_def]
 simp only
 rw [if_neg (by rw [h]; simp),hr]
theorem lookN_zero {w : NW} {r : Int} {a i : Nat} {l : List Nat} (h : atW w r a = false) (hr : rouW w r a = i :: l) : lookN w r 0 a = none:= by
 rw [lookN.eq_def]
 simp only
 rw [if_neg (by rw [h]; simp),hr]
theorem lookN_succ {w : NW} {r : Int} {n a i : Nat} {l : List Nat} (h : atW w r a = false) (hr : rouW w r a = i :: l) : lookN w r (n + 1) a = match lookN w r n (roAt w (bestR w l i)).via with
  | none => none
  | some (p,v,c) => some (p,if v = 0 then (roAt w (bestR w l i)).via else v,if c + (roAt w (bestR w l i)).cost ≤ 65535 then c + (roAt w (bestR w l i)).cost else 65535):= by
 rw [lookN.eq_def]
 simp only
 rw [if_neg (by rw [h]; simp),hr]
 all_goals rfl
theorem C_look1 (w : NW) (h : w.OK) (hf : w.Fit) (hv : vNet w = none) (r : Int) (n : Nat) (hn : n ≤ 6)
  (rec : ∀ m,n = m + 1 → ∀ a,a < 4294967296 → AC Tryz.prog f_q25 [.rp (topoV w),.lit (.int .i64 r),avU a,.lit (.int .i64 (6 - (m : Int)))] (lookV (lookN w r m a)))
  (a : Nat) (ha : a < 4294967296) : AC Tryz.prog f_q25 [.rp (topoV w),.lit (.int .i64 r),avU a,.lit (.int .i64 (6 - (n : Int)))] (lookV (lookN w r n a)):= by
 have hrI:= fun x => avRow_some 1 .none (AV.lit x) rfl
 have hR1 : ∀ i,i ∈ rouW w r a → ∃ x,w.ros[i]? = some x:= fun i => rouW_mem
 have hRl:= rouW_len w r a
 have h4:= hf.l4
 have hcon : 0 ≤ conW w r a → ∃ p : Nat,conW w r a = (p : Int) ∧ p < w.pts.length:= by
  intro h0
  rcases conS_ok w a (ofW w r) _ (Nat.le_refl _) with h2 | ⟨q,hq,h2,_⟩
  ·simp only [conW,h2] at h0; omega
  ·exact ⟨q,by simp only [conW,h2],of_mem hq⟩
 have hRo:= C_Routes w h hf hv r a ha
 have hCo:= C_Connected w h hf hv r a ha
 have hbest : ∀ i l,rouW w r a = i :: l → RouteOK w (roAt w (bestR w l i)):= fun i l e => best_ok hv e
 have hat:= atB_eq w r a
 generalize hcE : conW w r a = c at *
 generalize hRE : rouW w r a = R at *
 simp only [avU] at hRo hCo
 refine ac_q25 ?_ (Nat.le_add_left 4 _) (resOK_look _)
 simp only [go_sem,c_q25,avU]
 refine callX_of (C_Raw w) ?_
 simp only [go_sem]
 refine callX_of hRo ?_
 simp only [go_sem]
 refine callX_of hCo ?_
 have k00 : (((0 : Nat) : Int) == 0) = true:= rfl
 have z1 : ∀ p : Nat,con0 (p : Int) = (p : Int):= fun p => if_neg (by omega)
 have hd6 : ((6 - (n : Int)) == 6) = decide (n = 0):= by
  rw [Bool.eq_iff_iff]
  simp only [beq_iff_eq,decide_eq_true_eq]
  omega
 cases R with
 | nil =>
  by_cases h0 : 0 ≤ c
  ·obtain ⟨p,rfl,hpl⟩:= hcon h0
   have g0 : (0 ≤ (p : Int)) = True:= eq_true h0
   rw [lookN_at (by rw [hat]; simp [atB]),hcE]
   simp only [go_sem,g0,z1,k00,decide_true,List.length_nil,Int.toNat_natCast,lookV,wayV,avI,avU,Int.natCast_zero]
  ·have g0 : (0 ≤ c) = False:= eq_false h0
   rw [lookN_nil (by rw [hat]; simp [atB,h0]) hRE]
   simp only [go_sem,g0,k00,decide_false,List.length_nil,lookV,way0]
 | cons i l =>
  obtain ⟨x,hx⟩:= hR1 i (by simp)
  have hxi:= roAt_of hx
  have hb:= hbest i l rfl
  have kl : (((l.length + 1 : Nat) : Int) == 0) = false:= by simp; omega
  simp only [atB,hxi] at hat
  have hvia : ∀ b,b = bestR w l i → (roAt w b).via < 4294967296:= by
   rintro b rfl
   have hm : bestR w l i ∈ i :: l:= by
    rcases bestR_mem w l i with h | h
    ·rw [h]; simp
    ·simp [h]
   obtain ⟨x3,hx3⟩:= hR1 _ hm
   rw [roAt_of hx3]
   exact h.rov x3 (List.mem_of_getElem? hx3)
  have h3 : (∃ (p : Nat) (x2 : NPt) (k2 : Nat) (y2 : NLk),c = (p : Int) ∧ w.pts[p]? = some x2 ∧ x2.lk = (k2 : Int) ∧ w.lks[k2]? = some y2 ∧ pfxW w p = y2 ∧ x.b ≤ y2.b) ∨
    (∃ (p : Nat) (x2 : NPt) (k2 : Nat) (y2 : NLk),c = (p : Int) ∧ w.pts[p]? = some x2 ∧ x2.lk = (k2 : Int) ∧ w.lks[k2]? = some y2 ∧ pfxW w p = y2 ∧ ¬ x.b ≤ y2.b) ∨ ¬ 0 ≤ c:= by
   by_cases h0 : 0 ≤ c
   ·obtain ⟨p,rfl,hpl⟩:= hcon h0
    obtain ⟨x2,hx2⟩ : ∃ y,w.pts[p]? = some y:= ⟨w.pts[p],List.getElem?_eq_getElem hpl⟩
    obtain ⟨k2,y2,hk2,hy2,hpf⟩:= pfx_of hv hx2
    by_cases hge : x.b ≤ y2.b
    ·exact .inl ⟨p,x2,k2,y2,rfl,hx2,hk2,hy2,hpf,hge⟩
    ·exact .inr (.inl ⟨p,x2,k2,y2,rfl,hx2,hk2,hy2,hpf,hge⟩)
   ·exact .inr (.inr h0)
  rcases h3 with ⟨p,x2,k2,y2,rfl,hx2,hk2,hy2,hpf,hge⟩ | ⟨p,x2,k2,y2,rfl,hx2,hk2,hy2,hpf,hge⟩ | h0
  ·have g0 : (0 ≤ (p : Int)) = True:= eq_true (by omega)
   rw [Int.toNat_natCast,hpf] at hat
   have g1 : (x.b ≤ y2.b) = True:= eq_true hge
   have g2 : (y2.b ≥ x.b) = True:= eq_true hge
   rw [lookN_at (by rw [hat]; simp [hge]),hcE]
   simp only [go_sem,g0,z1,kl,g1,g2,decide_true,netV,Int.natCast_nonneg,Int.toNat_natCast,Int.toNat_zero,Int.le_refl,List.length_cons,List.length_map,List.getElem?_map,List.getElem?_cons_zero,hx,hx2,hk2,hy2,hrI,Option.map_some,rowAgg,avPort,avLink,avRoute,avStr,avU,avI,lookV,wayV,Int.natCast_zero]
  have g0 : (0 ≤ (p : Int)) = True:= eq_true (by omega)
  rw [Int.toNat_natCast,hpf] at hat
  have g1 : (x.b ≤ y2.b) = False:= eq_false hge
  have hat0 : atW w r a = false:= by rw [hat]; simp [hge]
  have g2 : (y2.b ≥ x.b) = False:= eq_false hge
  simp only [go_sem,g0,z1,kl,hd6,g1,g2,decide_true,decide_false,netV,Int.natCast_nonneg,Int.toNat_natCast,Int.toNat_zero,Int.le_refl,List.length_cons,List.length_map,List.getElem?_map,List.getElem?_cons_zero,hx,hx2,hk2,hy2,hrI,Option.map_some,rowAgg,avPort,avLink,avRoute,avStr,avU,avI]
  rotate_left
  have g0 : (0 ≤ c) = False:= eq_false h0
  have hat0 : atW w r a = false:= by rw [hat]; simp [h0]
  simp only [go_sem,g0,kl,hd6,decide_false,List.length_cons,List.length_map]
  rotate_left
  all_goals
   rcases n with _ | n
   ·rw [lookN_zero hat0 hRE]
    simp only [go_sem,lookV,way0]
   rw [lookN_succ hat0 hRE]
   have hn0 : (n + 1 = 0) = False:= eq_false (by omega)
   have hts:= tailSl i l
   simp only [List.length_map,List.length_cons,List.map_cons,avI] at hts
   simp only [go_sem,hn0,decide_false,netV,Int.natCast_nonneg,Int.toNat_natCast,Int.toNat_zero,Int.le_refl,List.length_cons,List.length_map,List.getElem?_map,List.getElem?_cons_zero,List.map_cons,hx,hrI,Option.map_some,rowAgg,avRoute,avU,avI,hts]
   refine aw_loop (fun m E => ∃ k : Nat,k + m = l.length ∧ E = mkE [(0,.rp (topoV w)),(1,.lit (.int .i64 r)),(3,.lit (.int .i64 (6 - ((n + 1 : Nat) : Int)))),(8,.lp 8 0),(10,.rp (netV w)),(14,.lp 14 0),(88,.sl .none 1 (l.map avI)),(89,.lit (.int .i64 (l.length : Nat))),(90,.lit (.int .i64 (k : Nat)))] [(8,[.lit (.int .i64 0),.lit (.int .u32 0),.lit (.int .i64 0)]),(14,roC (roAt w (bestR w (l.take k) i)))]) l.length ?_ ?_
   ·exact ⟨0,by omega,by rw [List.take_zero]; simp only [bestR,hxi]; rfl⟩
   ·rintro m _ ⟨k,hk,rfl⟩
    by_cases hkl : k < l.length
    ·have f1 : ((k : Int) < (l.length : Int)) = True:= eq_true (by omega)
     have hw:= wrap_succ k (by simp only [List.length_cons] at hRl; omega)
     obtain ⟨j,hj⟩ : ∃ j,l[k]? = some j:= ⟨l[k],List.getElem?_eq_getElem hkl⟩
     obtain ⟨xj,hxj⟩:= hR1 j (List.mem_cons_of_mem _ (List.mem_of_getElem? hj))
     have e1 : bestR w (l.take (k + 1)) i = bestStep w (bestR w (l.take k) i) j:= by
      rw [List.take_add_one,hj,Option.toList_some,bestR_snoc]
     simp only [bestStep,roAt_of hxj] at e1
     generalize bestR w (l.take k) i = b at *
     by_cases hlt : xj.cost < (roAt w b).cost
     ·have g3 : (xj.cost < (roAt w b).cost) = True:= eq_true hlt
      rw [if_pos hlt] at e1
      simp only [go_sem,f1,g3,roC,netV,decide_true,Int.natCast_nonneg,Int.toNat_natCast,List.getElem?_map,hj,hxj,hrI,Option.map_some,rowAgg,avRoute,avU,avI,hw]
      exact ⟨m - 1,by omega,k + 1,by omega,by rw [e1,roAt_of hxj]⟩
     ·have g3 : (xj.cost < (roAt w b).cost) = False:= eq_false hlt
      rw [if_neg hlt] at e1
      simp only [go_sem,f1,g3,roC,netV,decide_true,decide_false,Int.natCast_nonneg,Int.toNat_natCast,List.getElem?_map,hj,hxj,hrI,Option.map_some,rowAgg,avRoute,avU,avI,hw]
      exact ⟨m - 1,by omega,k + 1,by omega,by rw [e1]⟩
    ·have f1 : ((k : Int) < (l.length : Int)) = False:= eq_false (by omega)
     rw [List.take_of_length_le (by omega)]
     have hva:= hvia _ rfl
     generalize roAt w (bestR w l i) = x0 at *
     have hrec:= rec n rfl x0.via hva
     have hwd : IntKind.wrap .i64 (6 - ((n + 1 : Nat) : Int) + 1) = 6 - (n : Int):= by
      rw [iw _ (by omega) (by omega)]
      omega
     simp only [avU] at hrec
     simp only [go_sem,f1,roC,avU,decide_false,hwd]
     refine callX_of hrec ?_
     cases hl : lookN w r n x0.via with
     | none => simp only [go_sem,lookV,way0]
     | some q =>
      obtain ⟨p',v',c'⟩:= q
      have hcc:= lookN_cost hv r n x0.via p' v' c' hl
      have hb0:= hb.c0
      have hb1:= hb.c1
      have hwc : IntKind.wrap .i64 (c' + x0.cost) = c' + x0.cost:= iw _ (by omega) (by omega)
      have emin : (if 65535 < c' + x0.cost then (65535 : Int) else c' + x0.cost) = if c' + x0.cost ≤ 65535 then c' + x0.cost else 65535:= by
       split <;> split <;> omega
      cases hv0 : v' == 0
      ·have e0 : ¬ v' = 0:= by simpa using hv0
       have b0 : ((v' : Int) == 0) = false:= by simp; omega
       simp only [go_sem,lookV,wayV,avI,avU,b0,hwc,avMm_min',emin,if_neg e0]
      ·have e0 : v' = 0:= by simpa using hv0
       subst e0
       have b0 : (((0 : Nat) : Int) == 0) = true:= rfl
       simp only [go_sem,lookV,wayV,avI,avU,b0,hwc,avMm_min',emin,if_true]
theorem C_look (w : NW) (h : w.OK) (hf : w.Fit) (hv : vNet w = none) (r : Int) : ∀ (n a : Nat),n ≤ 6 → a < 4294967296 → AC Tryz.prog f_q25 [.rp (topoV w),.lit (.int .i64 r),avU a,.lit (.int .i64 (6 - (n : Int)))] (lookV (lookN w r n a))
 | 0,a,hn,ha => C_look1 w h hf hv r 0 hn (fun m hm => by omega) a ha
 | n + 1,a,hn,ha => C_look1 w h hf hv r (n + 1) hn (fun m hm a ha => by
  obtain rfl : n = m:= by omega
  exact C_look w h hf hv r n a (by omega) ha) a ha
theorem C_Look (w : NW) (h : w.OK) (hf : w.Fit) (hv : vNet w = none) (r : Int) (a : Nat) (ha : a < 4294967296) : AC Tryz.prog f_q7 [.rp (topoV w),.lit (.int .i64 r),avU a] (lookV (lookN w r 6 a)):= by
 refine ac_q7 ?_ (Nat.le_add_left 3 _) (resOK_look _)
 have hL:= C_look w h hf hv r 6 a (by decide) ha
 rw [show (6 - ((6 : Nat) : Int)) = 0 from rfl] at hL
 simp only [go_sem,c_q7,avU]
 refine callX_of hL ?_
 cases lookN w r 6 a with
 | none => simp only [go_sem,lookV,way0]
 | some q => simp only [go_sem,lookV,wayV,avI,avU]
end Go.Proofs.YtjceingdmfogeaaGreatDoor.VL
end

section
set_option maxHeartbeats 4000000
namespace Go.Proofs.YtjceingdmfogeaaGreatDoor.VL
open Go.RowKit Go.Proofs
theorem line_v20 : vNet (lineW 2 0) = none:= by decide +kernel
theorem line_ok20 : (lineW 2 0).OK:= by
 constructor <;> decide +kernel
theorem line_l20 : lookN (lineW 2 0) 0 6 (addrL 0 9) = some (0,0,0):= by decide +kernel
theorem C_first9 : AC Tryz.prog f_q2 [] (.lit (.bool true)):= by
 refine ac_q2 ?_ (Nat.zero_le _)
 have hL:= C_Look (lineW 2 0) line_ok20 (vfit line_v20) line_v20 0 (addrL 0 9) (by decide)
 rw [line_l20] at hL
 have k0 : (((0 : Nat) : Int) == 0) = true:= rfl
 have k1 : ((0 : Int) == 0) = true:= rfl
 simp only [go_sem,c_q2]
 refine callX_of (C_Line 2 0 (by decide) (by decide) (by decide)) ?_
 simp only [go_sem,low_net,one_net,len_net,take_net,Nat.le_refl]
 refine callX_of (C_New (lineW 2 0) line_ok20 (vfit line_v20) line_v20) ?_
 simp only [go_sem]
 refine callX_of (C_nAddr 0 9 (by decide) (by decide)) ?_
 simp only [go_sem]
 refine callX_of hL ?_
 simp only [go_sem,lookV,wayV,avI,avU,k0,k1]
end Go.Proofs.YtjceingdmfogeaaGreatDoor.VL
end

section
set_option maxHeartbeats 4000000
namespace Go.Proofs.YtjceingdmfogeaaGreatDoor.VL
open Go.RowKit Go.Proofs
def dig1 (n : Nat) : ByteArray:= ⟨#[UInt8.ofNat (48 + n)]⟩
abbrev tabD : ByteArray:= ⟨#[48,49,50,51,52,53,54,55,56,57,97,98,99,100,101,102,103,104,105,106,107,108,109,110,111,112,113,114,115,116,117,118,119,120,121,122]⟩
theorem small_tab (n : Nat) (hn : n < 10) : avSlcs (.lit (.string tabD)) (some ((n : Nat) : Int)) (some ((n + 1 : Nat) : Int)) tabD = some (.lit (.string (dig1 n))):= by
 have : n = 0 ∨ n = 1 ∨ n = 2 ∨ n = 3 ∨ n = 4 ∨ n = 5 ∨ n = 6 ∨ n = 7 ∨ n = 8 ∨ n = 9:= by omega
 rcases this with rfl | rfl | rfl | rfl | rfl | rfl | rfl | rfl | rfl | rfl <;> (show _ = _; kernel_rfl)
theorem C_small1 (n : Nat) (hn : n < 10) : AC Tryz.prog f_q97 [.lit (.int .i64 (n : Nat))] (.lit (.string (dig1 n))):= by
 refine ac_q97 ?_ (Nat.le_add_left 1 _)
 have f1 : ((n : Int) < 10) = True:= eq_true (by omega)
 have hw:= wrap_succ n (by omega)
 have ht:= small_tab n hn
 simp only [tabD] at ht
 simp only [go_sem,c_q97,f1,decide_true,hw,ht]
theorem C_FormatInt1 (n : Nat) (hn : n < 10) : AC Tryz.prog f_q60 [.lit (.int .i64 (n : Nat)),.lit (.int .i64 10)] (.lit (.string (dig1 n))):= by
 refine ac_q60 ?_ (Nat.le_add_left 2 _)
 have f0 : ((0 : Int) ≤ (n : Int)) = True:= eq_true (by omega)
 have f1 : ((n : Int) < 100) = True:= eq_true (by omega)
 have k10 : ((10 : Int) == 10) = true:= rfl
 simp only [go_sem,c_q60,f0,f1,k10,decide_true]
 refine callX_of (C_small1 n hn) ?_
 simp only [go_sem]
theorem C_iItoa1 (n : Nat) (hn : n < 10) : AC Tryz.prog f_q34 [.lit (.int .i64 (n : Nat))] (.lit (.string (dig1 n))):= by
 refine ac_q34 ?_ (Nat.le_add_left 1 _)
 simp only [go_sem,c_q34]
 refine callX_of (C_FormatInt1 n hn) ?_
 simp only [go_sem]
theorem C_Itoa1 (n : Nat) (hn : n < 10) : AC Tryz.prog f_q17 [.lit (.int .i64 (n : Nat))] (.lit (.string (dig1 n))):= by
 refine ac_q17 ?_ (Nat.le_add_left 1 _)
 simp only [go_sem,c_q17]
 refine callX_of (C_iItoa1 n hn) ?_
 simp only [go_sem]
theorem C_Num1 (n : Nat) (hn : n < 10) : AC Tryz.prog f_q4 [.lit (.int .i64 (n : Nat))] (.lit (.string (dig1 n))):= by
 refine ac_q4 ?_ (Nat.le_add_left 1 _)
 simp only [go_sem,c_q4]
 refine callX_of (C_Itoa1 n hn) ?_
 simp only [go_sem]
theorem avBin_name (t : TypeId) (c : UInt8) (n : Nat) : avBin .add t (.lit (.string ⟨#[c]⟩)) (.lit (.string (dig1 n))) = some (.lit (.string (nameN c n))):= rfl
end Go.Proofs.YtjceingdmfogeaaGreatDoor.VL
end

section
set_option maxHeartbeats 4000000
namespace Go.Proofs.YtjceingdmfogeaaGreatDoor.VL
open Go.RowKit Go.Proofs
def nsL (k : Nat) : List NLk:= (List.range k).map fun i : Nat => ⟨nameN 108 i,167772160,8 + 4 * (i : Int)⟩
def nsP (k : Nat) : List NPt:= (List.range k).map fun i : Nat => ⟨0,(i : Int),167772160 + i + 1⟩
theorem nsL_succ (k : Nat) : (nsL (k + 1)).map avLink = (nsL k).map avLink ++ [.agg [.lit (.string (nameN 108 k)),.lit (.int .u32 167772160),.lit (.int .i64 (8 + 4 * (k : Int)))]]:= by simp [nsL,List.range_succ,avLink,avStr,avU]
theorem nsP_succ (k : Nat) : (nsP (k + 1)).map avPort = (nsP k).map avPort ++ [.agg [.lit (.int .i64 0),.lit (.int .i64 (k : Nat)),.lit (.int .u32 ((167772160 + k + 1 : Nat) : Int))]]:= by simp [nsP,List.range_succ,avPort,avU]
theorem nsL_len (k : Nat) : (nsL k).length = k:= by simp [nsL]
theorem nsP_len (k : Nat) : (nsP k).length = k:= by simp [nsP]
theorem nest_net (n : Nat) : netV (nestW n) = [.sl .none 2 [.agg [.lit (.string ⟨#[97]⟩),.lit (.int .i64 0)]],.sl .none 3 ((nsL n).map avLink),.sl .none 3 ((nsP n).map avPort),.sl .none 5 [],.sl .none 3 [],.sl .none 3 [],.sl .none 4 []]:= rfl
theorem ns_port : ∀ i,i < 5 → IntKind.wrap .u32 (IntKind.wrap .u32 (167772160 + IntKind.wrap .u32 ((i : Nat) : Int)) + 1) = ((167772160 + i + 1 : Nat) : Int):= by decide +kernel
theorem ns_or : ∀ k,k < 24 → bits .or .u32 167772160 (IntKind.wrap .u32 (1 * 2 ^ (23 - k))) = ((167772160 ||| 2 ^ (23 - k) : Nat) : Int) ∧ (167772160 ||| 2 ^ (23 - k)) < 4294967296:= by decide +kernel
theorem C_RibConnected (a b : Int) : AC Tryz.prog f_q0 [.lit (.int .i64 a),.lit (.int .i64 b)] (.lit (.bool true)):= by
 refine ac_q0 ?_ (Nat.le_add_left 2 _)
 simp only [go_sem,c_q0]
 refine callX_of C_first9 ?_
 simp only [go_sem]
 refine callX_of (C_Number a 5 (by decide) (by decide)) ?_
 obtain ⟨n,hn,hn5⟩ : ∃ n : Nat,a % 5 = (n : Int) ∧ n < 5:= ⟨(a % 5).toNat,by omega,by omega⟩
 have hw:= wrap_succ n (by omega)
 rw [hn]
 obtain ⟨k,hk,hk24⟩ : ∃ k : Nat,b % 24 = (k : Int) ∧ k < 24:= ⟨(b % 24).toNat,by omega,by omega⟩
 have hv:= nest_v n hn5
 have hok:= nest_ok n hn5
 have hf:= vfit hv
 have hN:= C_New (nestW (n + 1)) hok hf hv
 rw [nest_net] at hN
 obtain ⟨o1,o2⟩:= ns_or k hk24
 have hC:= C_Connected (nestW (n + 1)) hok hf hv 0 (167772160 ||| 2 ^ (23 - k)) o2
 have hL:= C_Look (nestW (n + 1)) hok hf hv 0 (167772160 ||| 2 ^ (23 - k)) o2
 have hb:= nest_con n hn5 k hk24
 simp only [nestB,Bool.and_eq_true,decide_eq_true_eq] at hb
 rw [hb.1] at hC
 rw [hb.2] at hL
 simp only [avI,avU,lookV,wayV] at hC hL
 generalize 167772160 ||| 2 ^ (23 - k) = A at *
 generalize topoV (nestW (n + 1)) = T at *
 simp only [go_sem,hw]
 refine aw_loop (fun m E => ∃ i : Nat,i + m = n + 1 ∧ E = mkE [(0,.lit (.int .i64 ((n + 1 : Nat) : Int))),(1,.lit (.int .i64 b)),(5,.lit (.bool true)),(6,.lp 6 0),(7,.lit (.int .i64 (i : Nat)))] [(6,[.sl (.own [23]) 2 [.agg [.lit (.string ⟨#[97]⟩),.lit (.int .i64 0)]],rowO [41] 3 ((nsL i).map avLink),rowO [52] 3 ((nsP i).map avPort),.sl .nil 0 [],.sl .nil 0 [],.sl .nil 0 [],.sl .nil 0 []])]) (n + 1) ?_ ?_
 ·exact ⟨0,by omega,rfl⟩
 ·rintro m _ ⟨i,him,rfl⟩
  by_cases hi : i < n + 1
  ·have f1 : ((i : Int) < ((n + 1 : Nat) : Int)) = True:= eq_true (by omega)
   have w1:= wrap_succ i (by omega)
   have w2 : IntKind.i64.wrap (4 * (i : Int)) = 4 * (i : Int):= by rw [IntKind.wrap_i64]; omega
   have w3 : IntKind.i64.wrap (8 + 4 * (i : Int)) = 8 + 4 * (i : Int):= by rw [IntKind.wrap_i64]; omega
   have w4:= ns_port i (by omega)
   have hNum:= C_Num1 i (by omega)
   have nm:= fun t => avBin_name t 108 i
   have e1:= nsL_succ i
   have e2:= nsP_succ i
   have l1 : ((nsL i).map avLink).length ≤ 1000:= by rw [List.length_map,nsL_len]; omega
   have l2 : ((nsP i).map avPort).length ≤ 1000:= by rw [List.length_map,nsP_len]; omega
   have l3 : (nsL i).map avLink = [] ↔ (nsP i).map avPort = []:= by
    rw [← List.length_eq_zero_iff,← List.length_eq_zero_iff,List.length_map,List.length_map,nsL_len,nsP_len]
   generalize (nsL i).map avLink = R at *
   generalize (nsP i).map avPort = Q at *
   cases R with
   | nil =>
    obtain rfl : Q = []:= l3.1 rfl
    have ea : ∀ s c x,avApp 3 32 [] 41 s c (.sl .nil 0 []) (.sl (.own [40]) 3 [AV.agg x]) = _:= fun s c x => avApp_nil (d:= 41) (s:= s) (c:= c) 3 32 0 [] [] [AV.agg x] (.own [40]) (by simp) (by decide)
    have eb : ∀ s c x,avApp 3 24 [] 52 s c (.sl .nil 0 []) (.sl (.own [51]) 3 [AV.agg x]) = _:= fun s c x => avApp_nil (d:= 52) (s:= s) (c:= c) 3 24 0 [] [] [AV.agg x] (.own [51]) (by simp) (by decide)
    simp only [go_sem,f1,decide_true,rowO_nil]
    refine callX_of hNum ?_
    simp only [go_sem,nm,w1,w2,w3,w4,ea,eb,rowO_nil]
    exact ⟨m - 1,by omega,i + 1,by omega,by rw [e1,e2]; rfl⟩
   | cons z zs =>
    cases Q with
    | nil => exact absurd (l3.2 rfl) (by simp)
    | cons y ys =>
    have ea : ∀ s c x,avApp 3 32 [] 41 s c (.sl (.own [41]) 3 (z :: zs)) (.sl (.own [40]) 3 [AV.agg x]) = _:= fun s c x => avApp_own (d:= 41) (s:= s) (c:= c) 3 32 [] [41] (z :: zs) [AV.agg x] (.own [40]) (by simp at l1 ⊢; omega) (by decide) rfl
    have eb : ∀ s c x,avApp 3 24 [] 52 s c (.sl (.own [52]) 3 (y :: ys)) (.sl (.own [51]) 3 [AV.agg x]) = _:= fun s c x => avApp_own (d:= 52) (s:= s) (c:= c) 3 24 [] [52] (y :: ys) [AV.agg x] (.own [51]) (by simp at l2 ⊢; omega) (by decide) rfl
    simp only [go_sem,f1,decide_true,rowO_cons]
    refine callX_of hNum ?_
    simp only [go_sem,nm,w1,w2,w3,w4,ea,eb,rowO_cons]
    exact ⟨m - 1,by omega,i + 1,by omega,by rw [e1,e2]; rfl⟩
  ·have f1 : ((i : Int) < ((n + 1 : Nat) : Int)) = False:= eq_false (by omega)
   have ei : i = n + 1:= by omega
   subst ei
   have en1 : rowO [41] 3 ((nsL (n + 1)).map avLink) = .sl (.own [41]) 3 ((nsL (n + 1)).map avLink):= rowO_ne (by
    intro e
    have:= congrArg List.length e
    rw [List.length_map,nsL_len] at this
    simp at this)
   have en2 : rowO [52] 3 ((nsP (n + 1)).map avPort) = .sl (.own [52]) 3 ((nsP (n + 1)).map avPort):= rowO_ne (by
    intro e
    have:= congrArg List.length e
    rw [List.length_map,nsP_len] at this
    simp at this)
   rw [en1,en2]
   have hN2:= hN.wk (xs:= [.agg [.sl .none 2 [.agg [.lit (.string ⟨#[97]⟩),.lit (.int .i64 0)]],.sl .none 3 ((nsL (n + 1)).map avLink),.sl .none 3 ((nsP (n + 1)).map avPort),.sl .nil 0 [],.sl .nil 0 [],.sl .nil 0 [],.sl .nil 0 []]]) ⟨wk_agg ⟨Wk.rfl _,Wk.rfl _,Wk.rfl _,wk_nil _ _,wk_nil _ _,wk_nil _ _,wk_nil _ _,trivial⟩,trivial⟩
   have s1 : IntKind.i64.wrap (23 - (k : Int)) = ((23 - k : Nat) : Int):= by
    rw [show 23 - (k : Int) = ((23 - k : Nat) : Int) by omega]
    exact wrap_nat (23 - k) (by omega)
   have s2 : IntKind.u64.wrap ((23 - k : Nat) : Int) = ((23 - k : Nat) : Int):= by
    rw [IntKind.wrap_u64]; omega
   have s3 : avBin .shl 37 (.lit (.int .u32 1)) (.lit (.int .u64 ((23 - k : Nat) : Int))) = some (.lit (.int .u32 (IntKind.wrap .u32 (1 * 2 ^ (23 - k))))):= by
    have:= avBin_shl 37 .u32 .u64 1 ((23 - k : Nat) : Int) (by omega) (by simp [IntKind.bits]; omega)
    rw [this,Int.toNat_natCast]
   have k4 : ((4 : Int) == 0) = false:= rfl
   have q4 : (k : Int).tdiv 4 = ((k / 4 : Nat) : Int):= by rw [Int.tdiv_eq_ediv_of_nonneg (by omega)]; omega
   have s4 : IntKind.i64.wrap ((k / 4 : Nat) : Int) = ((k / 4 : Nat) : Int):= wrap_nat (k / 4) (by omega)
   have s5 : IntKind.i64.wrap (((n + 1 : Nat) : Int) - 1) = ((n : Nat) : Int):= by
    rw [show ((n + 1 : Nat) : Int) - 1 = ((n : Nat) : Int) by omega]
    exact wrap_nat n (by omega)
   have mn : (if ((n : Nat) : Int) < ((k / 4 : Nat) : Int) then ((n : Nat) : Int) else ((k / 4 : Nat) : Int)) = ((min (k / 4) n : Nat) : Int):= by split <;> omega
   have hm0 : (0 ≤ ((min (k / 4) n : Nat) : Int)) = True:= eq_true (by omega)
   have z1 : con0 ((min (k / 4) n : Nat) : Int) = ((min (k / 4) n : Nat) : Int):= if_neg (by omega)
   have k00 : (((0 : Nat) : Int) == 0) = true:= rfl
   have k01 : ((0 : Int) == 0) = true:= rfl
   simp only [go_sem,f1,decide_false]
   refine callX_of (C_Number b 24 (by decide) (by decide)) ?_
   rw [hk]
   simp only [go_sem]
   refine callX_of hN2 ?_
   simp only [go_sem,s1,s2,s3,o1,k4,q4,s4,s5,avMm_min',mn]
   refine callX_of hC ?_
   simp only [go_sem]
   refine callX_of hL ?_
   simp only [go_sem,hm0,z1,decide_true,BEq.rfl,k00,k01]
end Go.Proofs.YtjceingdmfogeaaGreatDoor.VL
end

section
namespace Go.Proofs.YtjceingdmfogeaaGreatDoor.VL
def runF (f : Int → Option Int) : Nat → List Int → Int → Option (List Int)
 | 0,_,_ => none
 | n + 1,l,r => match f r with
  | none => some l
  | some q => if q ∈ l then none else runF f n (l ++ [q]) q
theorem nodup_len : ∀ (M : Nat) (l : List Int),l.Nodup → (∀ x ∈ l,0 ≤ x ∧ x < (M : Int)) → l.length ≤ M
 | 0,l,_,h => by
  cases l with
  | nil => exact Nat.le_refl _
  | cons a l => have:= h a (by simp); omega
 | M + 1,l,hn,h => by
  have h1 : (l.filter fun x => !(x == (M : Int))).length ≤ M:= nodup_len M _ (hn.filter _) fun x hx => by
   rw [List.mem_filter] at hx
   have:= h x hx.1
   have hne : ¬ x = (M : Int):= by simpa using hx.2
   omega
  have h2 : l.length ≤ (l.filter fun x => !(x == (M : Int))).length + 1:= by
   clear h1 h
   induction l with
   | nil => simp
   | cons a l ih =>
    have hc:= List.nodup_cons.1 hn
    rw [List.filter_cons]
    by_cases ha : a = (M : Int)
    ·have : (l.filter fun x => !(x == (M : Int))) = l:= List.filter_eq_self.2 fun x hx => by
      have : ¬ x = (M : Int):= fun e => hc.1 (by rw [ha,← e]; exact hx)
      simpa using this
     rw [if_neg (by simp [ha]),this]
     simp
    ·have:= ih hc.2
     rw [if_pos (by simp [ha])]
     simp only [List.length_cons]
     omega
  omega
end Go.Proofs.YtjceingdmfogeaaGreatDoor.VL
end

section
set_option maxHeartbeats 4000000
namespace Go.Proofs.YtjceingdmfogeaaGreatDoor.VL
open Go.RowKit Go.Proofs
def othersW (w : NW) (x : NPt) : List Nat:= (onW w x.lk).filter fun j => !(match w.pts[j]? with | some y => y.rt == x.rt | none => false)
def othersI (w : NW) (p : Int) : List Nat:= if 0 ≤ p ∧ p < (w.pts.length : Int) then (match w.pts[p.toNat]? with | some x => othersW w x | none => []) else []
theorem onW_of {w : NW} (hv : vNet w = none) {i : Nat} {x : NPt} (hx : w.pts[i]? = some x) : ∃ k : Nat,x.lk = (k : Int) ∧ k < w.lks.length ∧ onW w x.lk = idxK (onQ w k) w.pts.length:= by
 obtain ⟨k,hk,hkl⟩:= (portOK hv hx).lk
 refine ⟨k,hk,hkl,?_⟩
 simp only [onW,atF,hk]
 rw [if_pos (by omega)]
 simp
theorem onW_le (w : NW) (i : Int) : (onW w i).length ≤ w.pts.length:= by
 simp only [onW,atF]
 split
 ·exact idxK_len _ _
 ·exact Nat.zero_le _
end Go.Proofs.YtjceingdmfogeaaGreatDoor.VL
end

section
set_option maxHeartbeats 4000000
namespace Go.Proofs.YtjceingdmfogeaaGreatDoor.VL
open Go.RowKit Go.Proofs
structure HopN where
 inP : Int
 up : Int
 cost : Int
 there : Bool
deriving DecidableEq
def ownW (w : NW) (r : Int) (a : Nat) : Bool:= match atP w a with
 | some p => (match w.pts[p]? with | some x => x.rt == r | none => false)
 | none => false
def upW (w : NW) (p via : Nat) : Int:= match atP w via with
 | some q => if (othersI w (p : Int)).any (fun y => y == q) = true then (q : Int) else -1
 | none => -1
def toN (w : NW) (r : Int) (a : Nat) : Option HopN :=
 if 0 ≤ r ∧ r < (w.rts.length : Int) then
  if ownW w r a = true then some ⟨-1,-1,0,true⟩ else match lookN w r 6 a with
   | none => none
   | some (p,v,c) => some ⟨p,upW w p (if v = 0 then a else v),c,v == 0⟩
 else none
def nextF (w : NW) (a : Nat) (r : Int) : Option Int:= match toN w r a with
 | none => none
 | some h => if 0 ≤ h.up then (match w.pts[h.up.toNat]? with | some x => some x.rt | none => none) else none
def chainW (w : NW) (r : Int) (a : Nat) : Option (List Int):= match toN w r a with
 | none => none
 | some _ => runF (nextF w a) (w.rts.length + 1) [r] r
theorem nextF_lt {w : NW} (hv : vNet w = none) (a : Nat) (r q : Int) (h : nextF w a r = some q) : 0 ≤ q ∧ q < (w.rts.length : Int):= by
 unfold nextF at h
 split at h
 ·cases h
 ·split at h
  ·split at h
   ·rename_i x hx
    injection h with h
    obtain ⟨j,hj,hl⟩:= (portOK hv hx).rt
    omega
   ·cases h
  ·cases h
theorem upW_ok {w : NW} {p via : Nat} : upW w p via = -1 ∨ ∃ q : Nat,upW w p via = (q : Int) ∧ (othersI w (p : Int)).any (fun y => y == q) = true ∧ q < w.pts.length:= by
 unfold upW
 split
 ·rename_i q hq
  split
  ·rename_i hc
   obtain ⟨x,hx,_⟩:= atP_lt hq
   exact .inr ⟨q,rfl,hc,(List.getElem?_eq_some_iff.1 hx).1⟩
  ·exact .inl rfl
 ·exact .inl rfl
theorem lookN_port {w : NW} (r : Int) : ∀ (n a p v : Nat) (c : Int),lookN w r n a = some (p,v,c) → p ∈ ofW w r
 | n,a,p,v,c,h => by
  rw [lookN.eq_def] at h
  simp only at h
  split at h
  ·rename_i h0
   injection h with h
   have h1:= congrArg (fun q => q.1) h
   simp only at h1
   simp only [atW,Bool.and_eq_true,decide_eq_true_eq] at h0
   rcases conS_ok w a (ofW w r) _ (Nat.le_refl _) with h2 | ⟨q,hq,h2,_⟩
   ·have:= h0.1
    simp only [conW,h2] at this
    omega
   ·simp only [conW,h2,Int.toNat_natCast] at h1
    rw [← h1]
    exact hq
  ·split at h
   ·cases h
   ·cases n with
    | zero => cases h
    | succ n =>
     simp only at h
     split at h
     ·cases h
     ·rename_i p' v' c' h'
      injection h with h
      have h1:= congrArg (fun q => q.1) h
      simp only at h1
      rw [← h1]
      exact lookN_port r n _ p' v' c' h'
end Go.Proofs.YtjceingdmfogeaaGreatDoor.VL
end

section
set_option maxHeartbeats 4000000
namespace Go.Proofs.YtjceingdmfogeaaGreatDoor.VL
open Go.RowKit Go.Proofs
theorem toN_up {w : NW} (hv : vNet w = none) {r : Int} {a : Nat} {h : HopN} (ht : toN w r a = some h) : (h.inP = -1 ∧ h.up = -1 ∧ h.cost = 0) ∨
  ∃ p : Nat,h.inP = (p : Int) ∧ p ∈ ofW w r ∧ (h.up = -1 ∨ ∃ q : Nat,h.up = (q : Int) ∧ (othersI w (p : Int)).any (fun y => y == q) = true ∧ q < w.pts.length) ∧ 0 ≤ h.cost ∧ h.cost ≤ 65535:= by
 unfold toN at ht
 split at ht
 ·split at ht
  ·injection ht with ht
   subst ht
   exact .inl ⟨rfl,rfl,rfl⟩
  ·cases hl : lookN w r 6 a with
   | none => rw [hl] at ht; cases ht
   | some q =>
    obtain ⟨p,v,c⟩:= q
    rw [hl] at ht
    injection ht with ht
    subst ht
    have hc:= lookN_cost hv r 6 a p v c hl
    exact .inr ⟨p,rfl,lookN_port r 6 a p v c hl,upW_ok,hc.1,hc.2⟩
 ·cases ht
end Go.Proofs.YtjceingdmfogeaaGreatDoor.VL
end

section
set_option maxHeartbeats 4000000
namespace Go.Proofs.YtjceingdmfogeaaGreatDoor.VL
open Go.RowKit Go.Proofs
structure KI (p : Nat → Bool) (o : List Nat) (j k : Nat) (x : List Nat) : Prop where
 size : x.length = o.length
 lt : k < j
 le : j ≤ o.length
 pre : x.take k = (o.take j).filter fun n => !p n
 post : ∀ i,j ≤ i → x[i]? = o[i]?
theorem filter_take {p : Nat → Bool} {o : List Nat} {j a : Nat} (hj : o[j]? = some a) : (o.take (j + 1)).filter p = (o.take j).filter p ++ if p a then [a] else []:= by
 rw [List.take_add_one,hj,Option.toList_some,List.filter_append,List.filter_cons,List.filter_nil]
theorem KI.del {p : Nat → Bool} {o x : List Nat} {j k a : Nat} (h : KI p o j k x) (hj : o[j]? = some a) (hp : p a = true) : KI p o (j + 1) k x:= by
 have hl:= (List.getElem?_eq_some_iff.1 hj).1
 have:= h.lt
 refine ⟨h.size,by omega,by omega,?_,fun i hi => h.post i (by omega)⟩
 rw [filter_take hj,hp,h.pre]
 simp
theorem KI.keep {p : Nat → Bool} {o x : List Nat} {j k a : Nat} (h : KI p o j k x) (hj : o[j]? = some a) (hp : p a = false) : KI p o (j + 1) (k + 1) (x.set k a):= by
 have hl:= (List.getElem?_eq_some_iff.1 hj).1
 have h1:= h.lt
 have h2:= h.size
 refine ⟨by rw [List.length_set,h2],by omega,by omega,?_,fun i hi => ?_⟩
 ·rw [filter_take hj,hp,List.take_add_one,List.getElem?_set_self (by omega),List.take_set_of_le (Nat.le_refl k),h.pre]
  simp
 ·rw [List.getElem?_set_ne (by omega)]
  exact h.post i (by omega)
theorem KI.fin {p : Nat → Bool} {o x : List Nat} {k : Nat} (h : KI p o o.length k x) : x.take k = o.filter (fun n => !p n) ∧ (o.filter fun n => !p n).length = k:= by
 have h1:= h.pre
 rw [List.take_length] at h1
 refine ⟨h1,?_⟩
 have:= h.lt
 have:= h.size
 rw [← h1,List.length_take]
 omega
theorem KI.start (p : Nat → Bool) (l : List Nat) : (idxOf p l = -1 ∧ l.filter (fun n => !p n) = l) ∨ ∃ i : Nat,i < l.length ∧ idxOf p l = (i : Int) ∧ KI p l (i + 1) i l:= by
 cases h : l.findIdx? p with
 | none =>
  refine .inl ⟨by rw [idxOf,h],?_⟩
  rw [List.findIdx?_eq_none_iff] at h
  rw [List.filter_eq_self]
  intro a ha
  simp [h a ha]
 | some i =>
  refine .inr ⟨i,?_⟩
  rw [List.findIdx?_eq_some_iff_getElem] at h
  have e : idxOf p l = (i : Int):= by
   rw [idxOf,List.findIdx?_eq_some_iff_getElem.2 h]
  obtain ⟨hi,hp,hall⟩:= h
  refine ⟨hi,e,rfl,by omega,by omega,?_,fun _ _ => rfl⟩
  rw [filter_take (List.getElem?_eq_getElem hi),hp]
  simp only [Bool.not_true,Bool.false_eq_true,if_false,List.append_nil]
  refine (List.filter_eq_self.2 fun a ha => ?_).symm
  obtain ⟨j,hj⟩:= List.getElem?_of_mem ha
  have hjl : j < i:= by
   have:= (List.getElem?_eq_some_iff.1 hj).1
   rw [List.length_take] at this
   omega
  rw [List.getElem?_take_of_lt hjl] at hj
  obtain ⟨hjL,ej⟩:= List.getElem?_eq_some_iff.1 hj
  have:= hall j hjl
  rw [ej] at this
  simpa using this
theorem C_IndexFuncI {f : FuncId} {fst caps : List AV} {asf : Nat → List AV} {p : Nat → Bool} (t : Tok) (e : Nat) (l : List Nat) (hf : frB t = false) (he : e = 1 ∨ l = []) (hl : l.length < 9223372036854775808)
    (hlow : ∀ n, mapO (lower (getC []) 8) (fst ++ [(avI n)] ++ caps) = some (asf n)) (hAC : ∀ n ∈ l, AC Tryz.prog f (asf n) (.lit (.bool (p n)))) :
    AC Tryz.prog f_q96 [.sl t e (l.map avI), .clo (.func f) fst caps] (.lit (.int .i64 (idxOf p l))) := by
  refine ac_q96 ?_ (Nat.le_add_left 2 17)
  simp only [go_sem, c_q96]
  refine aw_loop (fun m E => ∃ k, k + m = l.length ∧ (∀ (j : Nat) (y : Nat), j < k → l[j]? = some y → p y = false) ∧ E = mkE [(0, .sl t e (l.map avI)), (1, .clo (.func f) fst caps), (7, .lit (.int .i64 l.length)), (8, .lit (.int .i64 (k : Nat)))] []) l.length ?_ ?_
  · exact ⟨0, by omega, fun j y hj => absurd hj (Nat.not_lt_zero j), by simp only [go_sem, Int.ofNat_zero]⟩
  · rintro m _ ⟨k, hk, hall, rfl⟩
    simp only [go_sem]
    refine condX_of (fun h => ?_) (fun h => ?_)
    · have hkl : k < l.length := by simpa using h
      obtain rfl : e = 1 := he.resolve_right (fun h => by rw [h] at hkl; simp at hkl)
      obtain ⟨x, hx⟩ : ∃ x, l[k]? = some x := ⟨l[k], List.getElem?_eq_getElem hkl⟩
      have hw := wrap_succ k (by omega)
      have hlx := hlow x
      simp only [avI] at hlx
      simp only [go_sem, h, hx, Int.toNat_natCast, Int.natCast_nonneg, List.getElem?_map, avRow_some, hf, avI, hlx]
      refine callX_of (hAC x (List.mem_of_getElem? hx)) ?_
      cases hp : p x
      · simp only [go_sem, hw]
        refine ⟨m - 1, by omega, k + 1, by omega, fun j y hj hy => ?_, rfl⟩
        by_cases hjk : j = k
        · subst hjk
          rw [hx] at hy
          injection hy with hy
          rw [← hy]
          exact hp
        · exact hall j y (by omega) hy
      · simp only [go_sem, idxOf_some hx hp hall]
    · have hkl : k = l.length := by have : ¬ k < l.length := by simpa using h
                                    omega
      have e : idxOf p l = -1 := idxOf_none fun i x hi => hall i x (by have := (List.getElem?_eq_some_iff.1 hi).1; omega) hi
      simp only [go_sem, h, e]
theorem chunk_nats : ∀ l : List Nat,chunk false 1 l.length (l.map avI) = l.map avI
 | [] => rfl
 | a :: l => by simp only [List.length_cons,List.map_cons,chunk,List.take_succ_cons,List.take_zero,List.headD_cons,List.drop_succ_cons,List.drop_zero,chunk_nats l]
theorem cells_nats : ∀ l : List Nat,(l.map avI).flatMap cellsOf = l.map avI
 | [] => rfl
 | a :: l => by
  simp only [List.map_cons,List.flatMap_cons,cells_nats l]
  rfl
theorem lowM_ints {l : List Nat} {tl : List AV} {cap : Nat} (hc : l.length ≤ cap) : lowM l.length cap 0 false 1 (some (l.map avI ++ tl)) = some (.sl .bor 1 (l.map avI)):= by
 have h1 : 0 + l.length * 1 ≤ (l.map avI ++ tl).length ∧ l.length ≤ cap ∧ (false = true ∨ (1 : Nat) = 1):= ⟨by simp,hc,.inr rfl⟩
 have h2 : ((l.map avI ++ tl).drop 0).take (l.length * 1) = l.map avI:= by
  rw [List.drop_zero,Nat.mul_one,List.take_append_of_le_length (by simp),List.take_of_length_le (by simp)]
 have h3 : mapO closeV (l.map avI) = some (l.map avI):= mapO_id fun x hx => by
  obtain ⟨n,_,rfl⟩:= List.mem_map.1 hx
  rfl
 show (if 0 + l.length * 1 ≤ (l.map avI ++ tl).length ∧ l.length ≤ cap ∧ (false = true ∨ (1 : Nat) = 1) then (match mapO closeV (((l.map avI ++ tl).drop 0).take (l.length * 1)) with
  | some l' => some (AV.sl .bor 1 (chunk false 1 l.length l'))
  | none => none) else none) = _
 rw [if_pos h1,h2,h3]
 show some (AV.sl .bor 1 (chunk false 1 l.length (l.map avI))) = _
 rw [chunk_nats]
theorem ret_ints (C : Nat → Option (List AV)) (l : List Nat) {tl : List AV} (ht : Tl tl) : mapO (retv C false 8) (l.map avI ++ tl) = some (l.map avI ++ tl):= by
 refine mapO_id fun x hx => ?_
 rcases List.mem_append.1 hx with hx | hx
 ·obtain ⟨n,_,rfl⟩:= List.mem_map.1 hx
  rfl
 ·rcases ht x hx with rfl | ⟨v,rfl⟩ <;> rfl
theorem close_ints (l : List Nat) {tl : List AV} (ht : Tl tl) : mapO closeV (l.map avI ++ tl) = some (l.map avI ++ tl):= by
 refine mapO_id fun x hx => ?_
 rcases List.mem_append.1 hx with hx | hx
 ·obtain ⟨n,_,rfl⟩:= List.mem_map.1 hx
  rfl
 ·rcases ht x hx with rfl | ⟨v,rfl⟩ <;> rfl
theorem retC_ints {s : List (Nat × AV)} {l : List Nat} {tl : List AV} (ht : Tl tl) : retC (mkE s [(100000,l.map avI ++ tl)]) [100000] = some [(100000,l.map avI ++ tl)]:= by
 simp only [retC,mapO_cons,mapO_nil,mkE_c,getC_cons,↓reduceIte,ret_ints _ l ht,catO_some]
theorem C_DeleteFunc {f : FuncId} {fst caps : List AV} {asf : Nat → List AV} {p : Nat → Bool} {cap : Nat} {tl : List AV} (ht : Tl tl) (l : List Nat) (hc : l.length ≤ cap) (hl : l.length ≤ 4611686018427387904)
  (hfst : ∀ C,mapO (lower C 7) fst = some fst) (hcaps : ∀ C,mapO (lower C 7) caps = some caps)
  (hlow : ∀ C n,mapO (lower C 8) (fst ++ [avI n] ++ caps) = some (asf n)) (hAC : ∀ n ∈ l,AC Tryz.prog f (asf n) (.lit (.bool (p n)))) :
  AM Tryz.prog f_q57 [.ml 100000 0 l.length cap false 1,.clo (.func f) fst caps] [(100000,l.map avI ++ tl)] (.ml 100000 0 (l.filter fun n => !p n).length cap false 1)
   [(100000,(l.filter fun n => !p n).map avI ++ (List.replicate (l.length - (l.filter fun n => !p n).length) (avI 0) ++ tl))]:= by
 refine am_q57 ?_ (by simp) (Nat.le_add_left 2 _)
 have hI:= C_IndexFuncI (t:= .bor) (e:= 1) (p:= p) (fst:= fst) (caps:= caps) (f:= f) l rfl (.inl rfl) (by omega) (hlow _) hAC
 simp only [go_sem,env0M_mk,c_q57,List.map_cons,List.map_nil,lowM_ints hc,hfst,hcaps]
 refine callX_of hI ?_
 rcases KI.start p l with ⟨e1,e2⟩ | ⟨i,hi,e1,hK⟩
 ·have f0 : ((-1 : Int) == -1) = true:= rfl
  simp only [go_sem,e1]
  refine shiftX_refl ?_
  simp only [go_sem,f0,endM_n,endM_r,e2]
  rw [Nat.sub_self,List.replicate_zero,List.nil_append]
  exact retC_ints ht
 have f0 : ((i : Int) == -1) = false:= by simp
 have wi:= iwn (i + 1) (by omega : (i : Int) + 1 = ((i + 1 : Nat) : Int)) (by omega)
 simp only [go_sem,e1]
 refine shiftX_refl ?_
 simp only [go_sem,f0,wi]
 refine aw_loop (fun m E => ∃ (j k : Nat) (x : List Nat),KI p l j k x ∧ l.length - j ≤ m ∧ E = mkE [(0,.ml 100000 0 l.length cap false 1),(1,.clo (.func f) fst caps),(5,iI k),(6,iI j)] [(100000,x.map avI ++ tl)]) l.length ?_ ?_
 ·exact ⟨i + 1,i,l,hK,by omega,rfl⟩
 ·rintro m _ ⟨j,k,x,hx,hm,rfl⟩
  have hle:= hx.le
  have hlt:= hx.lt
  have hsz:= hx.size
  by_cases hjn : j < l.length
  ·have f4 : ((j : Int) < (l.length : Int)) = True:= eq_true (by omega)
   obtain ⟨a,ha⟩ : ∃ a,l[j]? = some a:= ⟨l[j],List.getElem?_eq_getElem hjn⟩
   have hxa : x[j]? = some a:= by rw [hx.post j (Nat.le_refl _)]; exact ha
   have w4:= iwn (j + 1) (by omega : (j : Int) + 1 = ((j + 1 : Nat) : Int)) (by omega)
   have w5:= iwn (k + 1) (by omega : (k : Int) + 1 = ((k + 1 : Nat) : Int)) (by omega)
   have b3 : (k : Int) < (l.length : Int):= by omega
   have g3 : aval.ld false 1 ((x.map avI ++ tl).drop j) = some (avI a):= by
    rw [ld_drop,List.getElem?_append_left (by rw [List.length_map]; omega),List.getElem?_map,hxa]
    rfl
   have l1 : k + 1 ≤ (x.map avI ++ tl).length:= by rw [List.length_append,List.length_map]; omega
   have s1:= put_set (x.map avI) tl k (avI a) (by rw [List.length_map]; omega)
   have s2 : (x.map avI).set k (avI a) = (x.set k a).map avI:= by rw [List.map_set]
   rw [s2] at s1
   have hlx:= hlow (getC [(100000,x.map avI ++ tl)]) a
   simp only [avI] at g3 hlx s1
   have hA:= hAC a (List.mem_of_getElem? ha)
   simp only [go_sem,f4,decide_true,g3,hlx,Int.natCast_nonneg,Int.toNat_natCast,Nat.zero_add,Nat.mul_one]
   refine callX_of hA ?_
   cases hp : p a
   ·simp only [go_sem,f4,decide_true,w4,w5,l1,s1,b3,Int.natCast_nonneg,Int.toNat_natCast,Nat.zero_add,Nat.mul_one]
    exact ⟨m - 1,by omega,j + 1,k + 1,_,hx.keep ha hp,by omega,rfl⟩
   ·simp only [go_sem,w4]
    exact ⟨m - 1,by omega,j + 1,k,x,hx.del ha hp,by omega,rfl⟩
  ·have f4 : ((j : Int) < (l.length : Int)) = False:= eq_false (by omega)
   obtain rfl : j = l.length:= by omega
   obtain ⟨hpre,hlen⟩:= hx.fin
   have hs1 : 0 ≤ (k : Int) ∧ (k : Int) ≤ (l.length : Int) ∧ (l.length : Int) ≤ (l.length : Int) ∧ ((k : Int) < cap ∨ (k : Int) = 0) ∧ l.length ≤ cap:= by omega
   have hs2 : 0 ≤ ((0 : Nat) : Int) ∧ ((0 : Nat) : Int) ≤ (k : Int) ∧ (k : Int) ≤ (l.length : Int) ∧ (((0 : Nat) : Int) < cap ∨ ((0 : Nat) : Int) = 0) ∧ l.length ≤ cap:= by omega
   have hcl : (1 : Nat) = [AV.lit (.int .i64 0)].length ∧ k + (l.length - k) * 1 ≤ (x.map avI ++ tl).length ∧ oneL [AV.lit (.int .i64 0)] = true:= ⟨rfl,by rw [List.length_append,List.length_map]; omega,rfl⟩
   have hce : (x.map avI ++ tl).take k ++ (List.replicate (l.length - k) [AV.lit (.int .i64 0)]).flatten ++ (x.map avI ++ tl).drop (k + (l.length - k)) = (l.filter fun n => !p n).map avI ++ (List.replicate (l.length - k) (avI 0) ++ tl):= by
    have e1 : (x.map avI ++ tl).take k = (l.filter fun n => !p n).map avI:= by
     rw [List.take_append_of_le_length (by simp; omega),← List.map_take,hpre]
    have e2 : (x.map avI ++ tl).drop (k + (l.length - k)) = tl:= List.drop_left' (by simp; omega)
    have e3 : ∀ n : Nat,(List.replicate n [AV.lit (.int .i64 0)]).flatten = List.replicate n (avI 0):= by
     intro n
     induction n with
     | zero => rfl
     | succ n ih => rw [List.replicate_succ,List.flatten_cons,ih]; rfl
    rw [e1,e2,e3,List.append_assoc]
   simp only [go_sem,f4,decide_false,avSlM_some 1 100000 0 l.length cap false (k : Int) (l.length : Int) hs1,avSlM_some 1 100000 0 l.length cap false ((0 : Nat) : Int) (k : Int) hs2,Int.toNat_natCast,Nat.zero_add,Nat.mul_one,Int.toNat_zero,Nat.zero_mul,Nat.sub_zero]
   simp only [go_sem,clrM_some (c:= [(100000,x.map avI ++ tl)]) [AV.lit (.int .i64 0)] 100000 k (l.length - k) 1 (x.map avI ++ tl) hcl,hce,avSlM_some 1 100000 0 l.length cap false ((0 : Nat) : Int) (k : Int) hs2,Int.toNat_natCast,Nat.zero_add,Nat.mul_one,Int.toNat_zero,Nat.zero_mul,Nat.sub_zero,endM_n,endM_r,hlen,true_and]
   exact retC_ints (by
    intro y hy
    rcases List.mem_append.1 hy with hy | hy
    ·exact .inr ⟨_,List.eq_of_mem_replicate hy⟩
    ·exact ht y hy)
theorem C_listF (f : Nat → List Nat) (n i : Nat) (hi : i < n) (hn : n ≤ 4294967296) (hf : ∀ j,(f j).length ≤ 4294967296) (h0 : f i ≠ []) : ∃ τ,AC Tryz.prog f_q52 [.sl .none 1 (rowsN f n),.lit (.int .i64 (i : Nat))] (.sl (.fr τ) 1 ((f i).map avI)):= by
 have f1 : ((i : Int) < 0) = False:= eq_false (by omega)
 have f2 : ((n : Int) ≤ (i : Int)) = False:= eq_false (by omega)
 have hg:= rowsN_get f n i hi
 rw [if_neg h0] at hg
 have hr:= fun e rows => avRow_some 1 .none (AV.sl .none e rows) rfl
 refine ⟨[17,7],ac_q52 ?_ (Nat.le_add_left 2 _)⟩
 simp only [go_sem,c_q52,f1,f2,rowsN_len,decide_false,hg,hr,Int.natCast_nonneg,Int.toNat_natCast]
 refine callX_of (KF_Int ((f i).map avI) (by simpa using h0) (by simpa using hf i)) ?_
 simp only [go_sem]
theorem C_OnF (w : NW) (hf : w.Fit) (i : Nat) (hi : i < w.lks.length) (h0 : idxK (onQ w i) w.pts.length ≠ []) : ∃ τ,AC Tryz.prog f_q58 [.rp (topoV w),.lit (.int .i64 (i : Nat))] (.sl (.fr τ) 1 ((idxK (onQ w i) w.pts.length).map avI)):= by
 obtain ⟨τ,h⟩:= C_listF (fun j => idxK (onQ w j) w.pts.length) w.lks.length i hi hf.l2 (fun j => Nat.le_trans (idxK_len _ _) hf.l3) h0
 refine ⟨10 :: τ,ac_q58 ?_ (Nat.le_add_left 2 _)⟩
 simp only [go_sem,c_q58,topoV,tC,ONv]
 refine callX_of h ?_
 simp only [go_sem]
theorem C_Others_1 (w : NW) (x : NPt) (j : Nat) (y : NPt) (hy : w.pts[j]? = some y) : AC Tryz.prog f_q59 [avI j,.bp [.rp (topoV w)],.bp [.lit (.int .i64 x.rt),.lit (.int .i64 x.lk),avU x.a]] (.lit (.bool (y.rt == x.rt))):= by
 refine ac_q59 ?_ (Nat.le_add_left 3 _)
 simp only [go_sem,c_q59,topoV,tC,avI,Int.natCast_nonneg,Int.toNat_natCast,List.getElem?_map,hy,Option.map_some,rowAgg,avPort,avU]
theorem call0i_of {P : Program} {dst : Option Nat} {os : List AOper} {s : List (Nat × AV)} {c' : List (Nat × List AV)} {K : Env → Prop} {f : FuncId} {raw al : List AV} {args : Option (List AV)} {r : AV} {l : List Nat} {tl y : List AV} (ht : Tl tl)
  (hl : mapO (lowerM [(0,100000)] (getC ((0,l.map avI ++ tl) :: c')) 8) raw = some al) (h : AM P f al [(100000,l.map avI ++ tl)] r [(100000,y)])
  (hk : awX false P os ((mkE s ((0,y) :: c')).putO dst (retag (dst.getD 0) (unlend [(0,100000)] r))) K) : callX false P dst os s ((0,l.map avI ++ tl) :: c') K f raw args:= by
 refine callM_of [(0,100000)] rfl hl ?_ h ?_
 ·show mapO _ _ = _
  simp only [mapO_cons,mapO_nil,getC_cons,↓reduceIte,close_ints l ht,catO_some]
 ·rw [back_0c]
  exact hk
theorem C_Others (w : NW) (hf : w.Fit) (hv : vNet w = none) (p : Int) : AC Tryz.prog f_q32 [.rp (topoV w),.lit (.int .i64 p)] (.sl .none 1 ((othersI w p).map avI)):= by
 by_cases h0 : p < 0
 ·have e : othersI w p = []:= if_neg (by omega)
  rw [e]
  refine AC_weak (r:= .sl .nil 0 []) (ac_q32 ?_ (Nat.le_add_left 2 _)) (fun E v h => rep_sl0 h)
  have f1 : (p < 0) = True:= eq_true h0
  simp only [go_sem,c_q32,f1,decide_true]
 have f1 : (p < 0) = False:= eq_false h0
 by_cases h1 : (w.pts.length : Int) ≤ p
 ·have e : othersI w p = []:= if_neg (by omega)
  rw [e]
  refine AC_weak (r:= .sl .nil 0 []) (ac_q32 ?_ (Nat.le_add_left 2 _)) (fun E v h => rep_sl0 h)
  have f2 : ((w.pts.length : Int) ≤ p) = True:= eq_true h1
  simp only [go_sem,c_q32,topoV,tC,List.length_map,f1,f2,decide_true,decide_false]
 have f2 : ((w.pts.length : Int) ≤ p) = False:= eq_false h1
 obtain ⟨q,rfl⟩ : ∃ q : Nat,p = (q : Int):= ⟨p.toNat,by omega⟩
 obtain ⟨x,hx⟩ : ∃ x,w.pts[q]? = some x:= ⟨w.pts[q]'(by omega),List.getElem?_eq_getElem (by omega)⟩
 have e : othersI w (q : Int) = othersW w x:= by
  simp only [othersI]
  rw [if_pos (by omega),Int.toNat_natCast,hx]
 rw [e]
 obtain ⟨k,hk,hkl,eon⟩:= onW_of hv hx
 have hne : idxK (onQ w k) w.pts.length ≠ []:= by
  intro h
  have : q ∈ idxK (onQ w k) w.pts.length:= mem_idx.2 ⟨by omega,by simp [onQ,hx,hk]⟩
  rw [h] at this
  cases this
 obtain ⟨τ,hOn⟩:= C_OnF w hf k hkl hne
 have hlen:= idxK_len (onQ w k) w.pts.length
 have hl3:= hf.l3
 have hO1 : ∀ n ∈ idxK (onQ w k) w.pts.length,AC Tryz.prog f_q59 [avI n,.bp [.rp (topoV w)],.bp [.lit (.int .i64 x.rt),.lit (.int .i64 x.lk),avU x.a]] (.lit (.bool (match w.pts[n]? with | some y => y.rt == x.rt | none => false))):= by
  intro n hn
  have hnl:= (mem_idx.1 hn).1
  have hy : w.pts[n]? = some w.pts[n]:= List.getElem?_eq_getElem hnl
  rw [hy]
  exact C_Others_1 w x n _ hy
 simp only [othersW,eon]
 rw [hk] at hO1
 refine ac_q32 ?_ (Nat.le_add_left 2 _)
 generalize hT : topoV w = T at *
 have hT1 : (7 ≤ T.length) = True:= eq_true (by rw [← hT]; exact Nat.le_of_ble_eq_true rfl)
 have hT2 : T.take 7 = netV w:= by rw [← hT]; rfl
 simp only [go_sem,c_q32,f1,f2,hT1,hT2,netV,avU,decide_false,List.length_map,Int.natCast_nonneg,Int.toNat_natCast,List.getElem?_map,hx,Option.map_some,rowAgg,avPort,hk]
 refine callX_of hOn ?_
 simp only [go_sem]
 generalize idxK (onQ w k) w.pts.length = L at *
 have hLl : L.length ≤ 4294967296:= by omega
 refine splitX_of (VS.adopt (p:= .slot 29) (g:= false) 0 rfl (by simpa using hne) (fun r hr => ?_) (by decide) rfl) ?_
 ·obtain ⟨n,_,rfl⟩:= List.mem_map.1 hr
  rfl
 rintro _ ⟨cap,j,hcap,rfl⟩
 rw [cells_nats]
 rw [List.length_map] at hcap ⊢
 simp only [mkE_strip]
 rw [set_slot,mkE_putc]
 have ht : Tl (List.replicate j .dead):= fun x hx => .inl (List.eq_of_mem_replicate hx)
 generalize List.replicate j AV.dead = tl at ht ⊢
 have hD:= C_DeleteFunc (f:= f_q59) (fst:= []) (caps:= [.bp [.rp T],.bp [.lit (.int .i64 x.rt),.lit (.int .i64 (k : Nat)),avU x.a]]) (asf:= fun n => [avI n,.bp [.rp T],.bp [.lit (.int .i64 x.rt),.lit (.int .i64 (k : Nat)),avU x.a]])
  (p:= fun n => match w.pts[n]? with | some y => y.rt == x.rt | none => false) (cap:= cap) ht L hcap (by omega) (fun C => rfl) (fun C => rfl) (fun C n => rfl) hO1
 have hle : (L.filter fun n => !(match w.pts[n]? with | some y => y.rt == x.rt | none => false)).length ≤ L.length:= List.length_filter_le _ _
 generalize L.filter (fun n => !(match w.pts[n]? with | some y => y.rt == x.rt | none => false)) = M at *
 have hret : ∀ (C : Nat → Option (List AV)) (n : Nat),retM C (n + 1) 0 M.length cap false 1 (some (M.map avI ++ (List.replicate (L.length - M.length) (avI 0) ++ tl))) = some (.sl .none 1 (M.map avI)):= by
  intro C n
  rw [retM_some (l:= M.map avI) 0 M.length cap false 1 _ (show 0 + M.length * 1 ≤ (M.map avI ++ (List.replicate (L.length - M.length) (avI 0) ++ tl)).length ∧ M.length ≤ cap ∧ (false = true ∨ (1 : Nat) = 1) from ⟨by simp,by omega,.inr rfl⟩) ?_,chunk_nats]
  rw [List.drop_zero,Nat.mul_one,List.take_append_of_le_length (by simp),List.take_of_length_le (by simp)]
  refine mapO_id fun x hx => ?_
  obtain ⟨n,_,rfl⟩:= List.mem_map.1 hx
  rfl
 simp only [go_sem]
 refine call0i_of ht rfl hD ?_
 simp only [go_sem,hret]
end Go.Proofs.YtjceingdmfogeaaGreatDoor.VL
end

section
set_option maxHeartbeats 4000000
namespace Go.Proofs.YtjceingdmfogeaaGreatDoor.VL
open Go.RowKit Go.Proofs
theorem C_IndexZ (t : Tok) (e : Nat) (l : List Int) (v : Int) (hf : frB t = false) (he : e = 1 ∨ l = []) (hl : l.length < 9223372036854775808) : AC Tryz.prog f_q56 [.sl t e (l.map iI), iI v] (.lit (.int .i64 (idxOf (fun x => v == x) l))) := by
  refine ac_q56 ?_ (Nat.le_add_left 2 17)
  simp only [go_sem, c_q56]
  refine aw_loop (fun m E => ∃ k, k + m = l.length ∧ (∀ (j : Nat) (y : Int), j < k → l[j]? = some y → (v == y) = false) ∧ E = mkE [(0, .sl t e (l.map iI)), (1, iI v), (7, .lit (.int .i64 l.length)), (8, .lit (.int .i64 (k : Nat)))] []) l.length ?_ ?_
  · exact ⟨0, by omega, fun j y hj => absurd hj (Nat.not_lt_zero j), by simp only [go_sem, Int.ofNat_zero]⟩
  · rintro m _ ⟨k, hk, hall, rfl⟩
    simp only [go_sem]
    refine condX_of (fun h => ?_) (fun h => ?_)
    · have hkl : k < l.length := by simpa using h
      obtain rfl : e = 1 := he.resolve_right (fun h => by rw [h] at hkl; simp at hkl)
      obtain ⟨x, hx⟩ : ∃ x, l[k]? = some x := ⟨l[k], List.getElem?_eq_getElem hkl⟩
      have hw := wrap_succ k (by omega)
      simp only [go_sem, h, hx, Int.toNat_natCast, Int.natCast_nonneg, List.getElem?_map, avRow_some, hf]
      refine condX_of (fun hp => ?_) (fun hp => ?_)
      · simp only [go_sem, idxOf_some (p := fun x => v == x) hx hp hall]
      · simp only [go_sem, hw]
        refine ⟨m - 1, by omega, k + 1, by omega, fun j y hj hy => ?_, rfl⟩
        by_cases hjk : j = k
        · subst hjk
          rw [hx] at hy
          injection hy with hy
          rw [← hy]
          exact hp
        · exact hall j y (by omega) hy
    · have hkl : k = l.length := by have : ¬ k < l.length := by simpa using h
                                    omega
      have e : idxOf (fun x => v == x) l = -1 := idxOf_none fun i x hi => hall i x (by have := (List.getElem?_eq_some_iff.1 hi).1; omega) hi
      simp only [go_sem, h, e]
theorem C_ContainsZ (t : Tok) (e : Nat) (l : List Int) (v : Int) (ht : lowTok t = t) (hf : frB t = false) (he : e = 1 ∨ l = []) (hl : l.length < 9223372036854775808) : AC Tryz.prog f_q29 [.sl t e (l.map iI),iI v] (.lit (.bool (l.any fun x => v == x))):= by
 refine ac_q29 ?_ (Nat.le_add_left 2 _)
 simp only [go_sem,c_q29,ht]
 refine callX_of (C_IndexZ t e l v hf he hl) ?_
 simp only [go_sem,any_idx]
end Go.Proofs.YtjceingdmfogeaaGreatDoor.VL
end

section
set_option maxHeartbeats 4000000
namespace Go.Proofs.YtjceingdmfogeaaGreatDoor.VL
open Go.RowKit Go.Proofs
def hopV (h : HopN) : AV:= .agg [.lit (.int .i64 h.inP),.lit (.int .i64 h.up),.lit (.int .i64 h.cost),.lit (.bool h.there)]
def hop0 : AV:= .agg [.lit (.int .i64 0),.lit (.int .i64 0),.lit (.int .i64 0),.lit (.bool false)]
def toV : Option HopN → AV
 | some h => .tup [hopV h,.lit (.bool true)]
 | none => .tup [hop0,.lit (.bool false)]
theorem resOK_to (q : Option HopN) : resOK (toV q) = true:= by cases q <;> rfl
theorem C_own (w : NW) (r : Int) (a : Nat) : AC Tryz.prog f_q30 [.rp (topoV w),.lit (.int .i64 r),avU a] (.lit (.bool (ownW w r a))):= by
 refine ac_q30 ?_ (Nat.le_add_left 3 _)
 simp only [go_sem,c_q30,avU]
 refine callX_of (C_At w a) ?_
 unfold ownW
 cases hp : atP w a with
 | none => simp only [go_sem,Option.isSome_none,Option.getD_none]
 | some p =>
  obtain ⟨x,hx,_⟩:= atP_lt hp
  simp only [go_sem,Option.isSome_some,Option.getD_some,avI]
  refine callX_of (C_Raw w) ?_
  simp only [go_sem,netV,Int.natCast_nonneg,Int.toNat_natCast,List.getElem?_map,hx,Option.map_some,rowAgg,avPort]
theorem C_To (w : NW) (h : w.OK) (hf : w.Fit) (hv : vNet w = none) (r : Int) (a : Nat) (ha : a < 4294967296) : AC Tryz.prog f_q14 [.rp (topoV w),.lit (.int .i64 r),avU a] (toV (toN w r a)):= by
 refine ac_q14 ?_ (Nat.le_add_left 3 _) (resOK_to _)
 simp only [go_sem,c_q14,avU]
 refine callX_of (C_Raw w) ?_
 unfold toN
 by_cases h0 : r < 0
 ·have g1 : (r < 0) = True:= eq_true h0
  rw [if_neg (by omega)]
  simp only [go_sem,g1,decide_true,toV,hop0]
 have g1 : (r < 0) = False:= eq_false h0
 by_cases h1 : (w.rts.length : Int) ≤ r
 ·have g2 : ((w.rts.length : Int) ≤ r) = True:= eq_true h1
  rw [if_neg (by omega)]
  simp only [go_sem,netV,List.length_map,g1,g2,decide_true,decide_false,toV,hop0]
 have g2 : ((w.rts.length : Int) ≤ r) = False:= eq_false h1
 rw [if_pos (by omega)]
 simp only [go_sem,netV,List.length_map,g1,g2,decide_false]
 refine callX_of (C_own w r a) ?_
 cases ho : ownW w r a
 case true => simp only [go_sem,toV,hopV]
 simp only [go_sem,Bool.false_eq_true,if_false]
 refine callX_of (C_Look w h hf hv r a ha) ?_
 cases hl : lookN w r 6 a with
 | none => simp only [go_sem,lookV,way0,toV,hop0]
 | some q =>
  obtain ⟨p,v,c⟩:= q
  have hpl:= of_mem (lookN_port r 6 a p v c hl)
  have hO:= C_Others w hf hv (p : Int)
  have hlen : (othersI w (p : Int)).length ≤ w.pts.length:= by
   simp only [othersI]
   split
   ·split
    ·exact Nat.le_trans (List.length_filter_le _ _) (onW_le w _)
    ·exact Nat.zero_le _
   ·exact Nat.zero_le _
  have h3:= hf.l3
  simp only [go_sem,lookV,wayV,avI,avU]
  have fin : ∀ via : Nat,(if v = 0 then a else v) = via → ∀ (Q : Prop),Q → Q:= fun _ _ _ h => h
  cases hv0 : v == 0
  ·have e0 : ¬ v = 0:= by simpa using hv0
   have b0 : ((v : Int) == 0) = false:= by simp; omega
   rw [if_neg e0]
   simp only [go_sem,b0]
   refine callX_of (C_At w v) ?_
   unfold upW
   cases hat : atP w v with
   | none => simp only [go_sem,Option.isSome_none,Option.getD_none,toV,hopV]
   | some q =>
    have hC:= C_ContainsZ .none 1 ((othersI w (p : Int)).map fun n : Nat => (n : Int)) (q : Int) rfl rfl (.inl rfl) (by rw [List.length_map]; omega)
    rw [← map_avI] at hC
    have ec : ((othersI w (p : Int)).map fun n : Nat => (n : Int)).any (fun x => (q : Int) == x) = (othersI w (p : Int)).any (fun y => y == q):= by
     rw [List.any_map]
     congr 1
     funext x
     simp only [Function.comp,nat_beqb]
     rw [Bool.eq_iff_iff]
     simp only [beq_iff_eq]
     exact eq_comm
    rw [ec] at hC
    simp only [go_sem,Option.isSome_some,Option.getD_some,avI]
    refine callX_of hO ?_
    simp only [go_sem]
    refine callX_of hC ?_
    cases hb : (othersI w (p : Int)).any fun y => y == q
    ·simp only [go_sem,toV,hopV,Bool.false_eq_true,if_false]
    ·simp only [go_sem,toV,hopV,if_true]
  ·have e0 : v = 0:= by simpa using hv0
   subst e0
   have b0 : (((0 : Nat) : Int) == 0) = true:= rfl
   rw [if_pos rfl]
   simp only [go_sem,b0]
   refine callX_of (C_At w a) ?_
   unfold upW
   cases hat : atP w a with
   | none => simp only [go_sem,Option.isSome_none,Option.getD_none,toV,hopV]
   | some q =>
    have hC:= C_ContainsZ .none 1 ((othersI w (p : Int)).map fun n : Nat => (n : Int)) (q : Int) rfl rfl (.inl rfl) (by rw [List.length_map]; omega)
    rw [← map_avI] at hC
    have ec : ((othersI w (p : Int)).map fun n : Nat => (n : Int)).any (fun x => (q : Int) == x) = (othersI w (p : Int)).any (fun y => y == q):= by
     rw [List.any_map]
     congr 1
     funext x
     simp only [Function.comp,nat_beqb]
     rw [Bool.eq_iff_iff]
     simp only [beq_iff_eq]
     exact eq_comm
    rw [ec] at hC
    simp only [go_sem,Option.isSome_some,Option.getD_some,avI]
    refine callX_of hO ?_
    simp only [go_sem]
    refine callX_of hC ?_
    cases hb : (othersI w (p : Int)).any fun y => y == q
    ·simp only [go_sem,toV,hopV,Bool.false_eq_true,if_false]
    ·simp only [go_sem,toV,hopV,if_true]
end Go.Proofs.YtjceingdmfogeaaGreatDoor.VL
end

section
set_option maxHeartbeats 4000000
namespace Go.Proofs.YtjceingdmfogeaaGreatDoor.VL
open Go.RowKit Go.Proofs
def hopC : Option HopN → List AV
 | some h => [.lit (.int .i64 h.inP),.lit (.int .i64 h.up),.lit (.int .i64 h.cost),.lit (.bool h.there)]
 | none => [.lit (.int .i64 0),.lit (.int .i64 0),.lit (.int .i64 0),.lit (.bool false)]
theorem toV_eq (q : Option HopN) : toV q = .tup [.agg (hopC q),.lit (.bool q.isSome)]:= by cases q <;> rfl
def chainV : Option (List Int) → AV
 | some m => .tup [.sl .none 1 (m.map iI),.lit (.bool true)]
 | none => .tup [.sl .nil 0 [],.lit (.bool false)]
theorem resOK_chain (q : Option (List Int)) : resOK (chainV q) = true:= by cases q <;> rfl
theorem hopC_retag (n : Nat) (q : Option HopN) : retagL n (hopC q) = hopC q:= by cases q <;> rfl
theorem hopC_one (q : Option HopN) : (hopC q).all AV.one = true:= by cases q <;> rfl
theorem hopC_len (q : Option HopN) : (hopC q).length = 4:= by cases q <;> rfl
def CE (w : NW) (a t : Nat) (l : List Int) (q : Option HopN) : Env:= mkE [(0,.rp (topoV w)),(2,avU a),(8,.lp 8 0),(9,.lit (.bool q.isSome)),(10,.sl (.own [t]) 1 (l.map iI))] [(8,hopC q)]
theorem C_Chain (w : NW) (h : w.OK) (hf : w.Fit) (hv : vNet w = none) (r0 : Int) (hr0 : 0 ≤ r0 ∧ r0 < (w.rts.length : Int)) (a : Nat) (ha : a < 4294967296) : AC Tryz.prog f_q13 [.rp (topoV w),.lit (.int .i64 r0),avU a] (chainV (chainW w r0 a)):= by
 have h1 : w.rts.length ≤ 16:= len_le hv 0 (by decide)
 refine ac_q13 ?_ (Nat.le_add_left 3 _) (resOK_chain _)
 have hTo:= fun r => C_To w h hf hv r a ha
 simp only [avU] at hTo
 simp only [go_sem,c_q13,avU]
 refine callX_of (hTo r0) ?_
 unfold chainW
 cases ht0 : toN w r0 a with
 | none => simp only [go_sem,toV,hop0,chainV]
 | some h0 =>
  simp only [go_sem,toV,hopV]
  generalize hT : runF (nextF w a) (w.rts.length + 1) [r0] r0 = T
  refine aw_loop (fun n E => ∃ (t : Nat) (l : List Int) (r : Int),(t = 21 ∨ t = 44) ∧ runF (nextF w a) n l r = T ∧ l.Nodup ∧ (∀ x ∈ l,0 ≤ x ∧ x < (w.rts.length : Int)) ∧ w.rts.length < n + l.length ∧ l ≠ [] ∧ E = CE w a t l (toN w r a)) (w.rts.length + 1) ?_ ?_
  ·exact ⟨21,[r0],r0,.inl rfl,hT,by simp,fun x hx => by
    have : x = r0:= by simpa using hx
    subst this
    exact hr0,by simp only [List.length_singleton]; omega,by simp,by rw [ht0]; rfl⟩
  ·rintro n _ ⟨t,l,r,htt,hT,hnd,hin,hfu,hne,rfl⟩
   have hll:= nodup_len _ l hnd hin
   obtain ⟨n,rfl⟩ : ∃ k,n = k + 1:= ⟨n - 1,by omega⟩
   rw [runF] at hT
   have hend : nextF w a r = none → ∀ Q : Prop,(T = some l → Q) → Q:= fun e Q hQ => hQ (by rw [e] at hT; exact hT.symm)
   cases ht : toN w r a with
   | none =>
    have hnx : nextF w a r = none:= by unfold nextF; rw [ht]
    rw [hnx] at hT
    simp only at hT
    rw [← hT]
    simp only [go_sem,CE,hopC,Option.isSome_none,avU]
    refine shiftX_of (VS.tell (p:= .slot 10) (y:= .sl .none 1 (l.map iI)) rfl (wk_own _ _ _)) ?_
    rintro _ rfl
    rw [set_slot]
    simp only [go_sem,chainV]
   | some hp =>
    by_cases hu : 0 ≤ hp.up
    ·have g1 : (0 ≤ hp.up) = True:= eq_true hu
     have hq : ∃ q : Nat,hp.up = (q : Int) ∧ q < w.pts.length:= by
      rcases toN_up hv ht with ⟨_,e,_⟩ | ⟨_,_,_,e | ⟨q,e,_,hl⟩,_⟩
      ·omega
      ·omega
      ·exact ⟨q,e,hl⟩
     obtain ⟨q,hq,hql⟩:= hq
     obtain ⟨x,hx⟩ : ∃ x,w.pts[q]? = some x:= ⟨w.pts[q],List.getElem?_eq_getElem hql⟩
     have hnx : nextF w a r = some x.rt:= by
      unfold nextF
      rw [ht]
      simp only
      rw [if_pos hu,hq,Int.toNat_natCast,hx]
     have hxr:= nextF_lt hv a r x.rt hnx
     rw [hnx] at hT
     simp only at hT
     have hC:= C_ContainsZ .none 1 l x.rt rfl rfl (.inl rfl) (by omega)
     simp only [go_sem,CE,hopC,Option.isSome_some,avU,g1,decide_true]
     refine callX_of (C_Raw w) ?_
     simp only [go_sem,netV,hq,Int.natCast_nonneg,Int.toNat_natCast,List.getElem?_map,hx,Option.map_some,rowAgg,avPort]
     refine callX_of hC ?_
     cases hany : l.any fun y => x.rt == y
     ·have hnm : x.rt ∉ l:= fun hm => by
       have : (l.any fun y => x.rt == y) = true:= List.any_eq_true.2 ⟨_,hm,beq_self_eq_true _⟩
       rw [hany] at this
       cases this
      rw [if_neg hnm] at hT
      have hlen : (l.map iI).length + [AV.lit (.int .i64 x.rt)].length ≤ 4294967296:= by simp; omega
      have e2 : (l ++ [x.rt]).map iI = l.map iI ++ [.lit (.int .i64 x.rt)]:= by rw [List.map_append]; rfl
      have fin : ∃ k,k < n + 1 ∧ ∃ (t : Nat) (l' : List Int) (r' : Int),(t = 21 ∨ t = 44) ∧ runF (nextF w a) k l' r' = T ∧ l'.Nodup ∧ (∀ x ∈ l',0 ≤ x ∧ x < (w.rts.length : Int)) ∧ w.rts.length < k + l'.length ∧ l' ≠ [] ∧ CE w a 44 (l ++ [x.rt]) (toN w x.rt a) = CE w a t l' (toN w r' a):= by
       refine ⟨n,by omega,44,l ++ [x.rt],x.rt,.inr rfl,hT,?_,?_,?_,by simp,rfl⟩
       ·rw [List.nodup_append]
        exact ⟨hnd,by simp,fun a ha b hb => by
         have : b = x.rt:= by simpa using hb
         subst this
         exact fun e => hnm (e ▸ ha)⟩
       ·intro y hy
        rcases List.mem_append.1 hy with hy | hy
        ·exact hin y hy
        ·have : y = x.rt:= by simpa using hy
         subst this
         exact hxr
       ·rw [List.length_append,List.length_singleton]
        omega
      simp only [CE,e2] at fin
      have hTx:= hTo x.rt
      rw [toV_eq] at hTx
      rcases htt with rfl | rfl
      ·have ea : ∀ s c,avApp 1 8 [] 44 s c (.sl (.own [21]) 1 (l.map iI)) (.sl (.own [43]) 1 [.lit (.int .i64 x.rt)]) = _:= fun s c => avApp_own (d:= 44) (s:= s) (c:= c) 1 8 [] [21] (l.map iI) [.lit (.int .i64 x.rt)] (.own [43]) hlen (by decide) rfl
       simp only [go_sem,ea]
       refine callX_of hTx ?_
       simp only [go_sem,hopC_retag,hopC_one,hopC_len,Nat.le_refl]
       exact fin
      ·have ea : ∀ s c,avApp 1 8 [] 44 s c (.sl (.own [44]) 1 (l.map iI)) (.sl (.own [43]) 1 [.lit (.int .i64 x.rt)]) = _:= fun s c => avApp_own (d:= 44) (s:= s) (c:= c) 1 8 [] [44] (l.map iI) [.lit (.int .i64 x.rt)] (.own [43]) hlen (by decide) rfl
       simp only [go_sem,ea]
       refine callX_of hTx ?_
       simp only [go_sem,hopC_retag,hopC_one,hopC_len,Nat.le_refl]
       exact fin
     ·have hm : x.rt ∈ l:= by
       obtain ⟨y,hy,e⟩:= List.any_eq_true.1 hany
       have : x.rt = y:= by simpa using e
       rw [this]
       exact hy
      rw [if_pos hm] at hT
      rw [← hT]
      simp only [go_sem,chainV]
    ·have g1 : (0 ≤ hp.up) = False:= eq_false hu
     have hnx : nextF w a r = none:= by
      unfold nextF
      rw [ht]
      simp only
      rw [if_neg hu]
     rw [hnx] at hT
     simp only at hT
     rw [← hT]
     simp only [go_sem,CE,hopC,Option.isSome_some,avU,g1,decide_false]
     refine shiftX_of (VS.tell (p:= .slot 10) (y:= .sl .none 1 (l.map iI)) rfl (wk_own _ _ _)) ?_
     rintro _ rfl
     rw [set_slot]
     simp only [go_sem,chainV]
end Go.Proofs.YtjceingdmfogeaaGreatDoor.VL
end

