import Derived.Test.YtjceingdmfogeaaDoorGa12
set_option linter.unusedVariables false
set_option linter.unusedSimpArgs false
section
set_option maxHeartbeats 4000000
namespace Go.Proofs.YtjceingdmfogeaaDoor.VL
open Go.RowKit Go.Proofs
structure RouteOK (w : NW) (x : NRo) : Prop where
 ok : validN x.a x.b = true
 c0 : 0 ≤ x.cost
 c1 : x.cost ≤ 65535
 via : x.via ≠ 0
theorem routeOK {w : NW} (hv : vNet w = none) {i : Nat} {x : NRo} (hx : w.ros[i]? = some x) : RouteOK w x:= by
 have hi : i < w.ros.length:= (List.getElem?_eq_some_iff.1 hx).1
 have h:= (vNet_ok hv 3 i (by decide) hi).2
 simp only [vAt,hx,Option.bind_some,roOf] at h
 obtain ⟨_,h⟩:= ite_none h
 obtain ⟨h2,h⟩:= ite_none h
 obtain ⟨h3,_⟩:= ite_none h
 simp only [Bool.not_eq_false,Bool.and_eq_true,costN,decide_eq_true_eq] at h2
 simp only [Bool.not_eq_false,hostN,Bool.and_eq_true,Bool.not_eq_true',beq_eq_false_iff_ne,ne_eq] at h3
 exact ⟨h2.1,h2.2.1,h2.2.2,h3.1⟩
def pfxW (w : NW) (p : Nat) : NLk:= match w.pts[p]? with
 | some x => (match w.lks[x.lk.toNat]? with | some k => k | none => ⟨.empty,0,0⟩)
 | none => ⟨.empty,0,0⟩
def conStep (w : NW) (a : Nat) (s : Int × Int) (p : Nat) : Int × Int:= if (inN (pfxW w p).a (pfxW w p).b a && decide (s.2 < (pfxW w p).b)) = true then ((p : Int),(pfxW w p).b) else s
def conS (w : NW) (a : Nat) (l : List Nat) (i : Nat) : Int × Int:= (l.take i).foldl (conStep w a) (-1,-1)
theorem conS_succ {w : NW} {a : Nat} {l : List Nat} {i p : Nat} (hp : l[i]? = some p) : conS w a l (i + 1) = conStep w a (conS w a l i) p:= by
 rw [conS,List.take_add_one,hp,Option.toList_some,List.foldl_append]
 rfl
def conW (w : NW) (r : Int) (a : Nat) : Int:= (conS w a (ofW w r) (ofW w r).length).1
theorem conS_ok (w : NW) (a : Nat) (l : List Nat) : ∀ i,i ≤ l.length → conS w a l i = (-1,-1) ∨ ∃ p : Nat,p ∈ l ∧ conS w a l i = ((p : Int),(pfxW w p).b) ∧ 0 ≤ (pfxW w p).b
 | 0,_ => .inl rfl
 | i + 1,h => by
  obtain ⟨p,hp⟩ : ∃ p,l[i]? = some p:= ⟨l[i],List.getElem?_eq_getElem (by omega)⟩
  rw [conS_succ hp,conStep]
  by_cases hc : (inN (pfxW w p).a (pfxW w p).b a && decide ((conS w a l i).2 < (pfxW w p).b)) = true
  ·rw [if_pos hc]
   simp only [Bool.and_eq_true,inN] at hc
   exact .inr ⟨p,List.mem_of_getElem? hp,rfl,(validN_bounds hc.1.1).1⟩
  ·rw [if_neg hc]
   exact conS_ok w a l i (by omega)
def rouStep (w : NW) (r : Int) (a : Nat) (s : Int × List Nat) (i : Nat) : Int × List Nat:= match w.ros[i]? with
 | some x => if (!(x.rt == r) || (decide (x.b < s.1) || !inN x.a x.b a)) = true then s else if s.1 < x.b then (x.b,[i]) else (s.1,s.2 ++ [i])
 | none => s
def rouS (w : NW) (r : Int) (a : Nat) (k : Nat) : Int × List Nat:= (List.range k).foldl (rouStep w r a) (-1,[])
theorem rouS_succ (w : NW) (r : Int) (a k : Nat) : rouS w r a (k + 1) = rouStep w r a (rouS w r a k) k:= by
 rw [rouS,List.range_succ,List.foldl_append]
 rfl
def rouW (w : NW) (r : Int) (a : Nat) : List Nat:= (rouS w r a w.ros.length).2
theorem rouS_ok (w : NW) (r : Int) (a : Nat) : ∀ k,k ≤ w.ros.length → (∀ i ∈ (rouS w r a k).2,i < k ∧ ∃ x,w.ros[i]? = some x ∧ x.b = (rouS w r a k).1 ∧ x.rt = r) ∧ ((rouS w r a k).2.length ≤ k)
 | 0,_ => ⟨fun i hi => (by cases hi),Nat.le_refl _⟩
 | k + 1,h => by
  obtain ⟨ih,ihl⟩:= rouS_ok w r a k (by omega)
  obtain ⟨x,hx⟩ : ∃ x,w.ros[k]? = some x:= ⟨w.ros[k],List.getElem?_eq_getElem (by omega)⟩
  rw [rouS_succ,rouStep,hx]
  simp only
  split
  ·exact ⟨fun i hi => by obtain ⟨h1,h2⟩:= ih i hi; exact ⟨by omega,h2⟩,by omega⟩
  ·rename_i hc
   simp only [Bool.or_eq_true,Bool.not_eq_true',beq_eq_false_iff_ne,ne_eq,decide_eq_true_eq,not_or,Classical.not_not] at hc
   split
   ·refine ⟨fun i hi => ?_,by simp⟩
    obtain rfl : i = k:= by simpa using hi
    exact ⟨by omega,x,hx,rfl,hc.1⟩
   ·rename_i hlt
    refine ⟨fun i hi => ?_,by simp; omega⟩
    rcases List.mem_append.1 hi with hi | hi
    ·obtain ⟨h1,h2⟩:= ih i hi
     exact ⟨by omega,h2⟩
    ·obtain rfl : i = k:= by simpa using hi
     exact ⟨by omega,x,hx,by omega,hc.1⟩
theorem rouW_mem {w : NW} {r : Int} {a i : Nat} (h : i ∈ rouW w r a) : ∃ x,w.ros[i]? = some x:= by
 obtain ⟨_,x,hx,_⟩:= (rouS_ok w r a _ (Nat.le_refl _)).1 i h
 exact ⟨x,hx⟩
theorem rouW_len (w : NW) (r : Int) (a : Nat) : (rouW w r a).length ≤ w.ros.length:= (rouS_ok w r a _ (Nat.le_refl _)).2
def roAt (w : NW) (i : Nat) : NRo:= (w.ros[i]?).getD ⟨0,0,0,0,0⟩
def bestStep (w : NW) (b i : Nat) : Nat:= if (roAt w i).cost < (roAt w b).cost then i else b
def bestR (w : NW) : List Nat → Nat → Nat
 | [],b => b
 | i :: l,b => bestR w l (bestStep w b i)
def atW (w : NW) (r : Int) (a : Nat) : Bool:= decide (0 ≤ conW w r a) && match rouW w r a with
 | [] => true
 | i :: _ => decide ((roAt w i).b ≤ (pfxW w (conW w r a).toNat).b)
def lookN (w : NW) (r : Int) : Nat → Nat → Option (Nat × Nat × Int)
 | n,a => if atW w r a = true then some ((conW w r a).toNat,0,0) else match rouW w r a with
  | [] => none
  | i :: l => match n with
   | 0 => none
   | n + 1 => match lookN w r n (roAt w (bestR w l i)).via with
    | none => none
    | some (p,v,c) => some (p,if v = 0 then (roAt w (bestR w l i)).via else v,if c + (roAt w (bestR w l i)).cost ≤ 65535 then c + (roAt w (bestR w l i)).cost else 65535)
theorem bestR_mem (w : NW) : ∀ (l : List Nat) (b : Nat),bestR w l b = b ∨ bestR w l b ∈ l
 | [],b => .inl rfl
 | i :: l,b => by
  simp only [bestR,bestStep]
  split
  ·rcases bestR_mem w l i with h | h
   ·rw [h]; exact .inr (by simp)
   ·exact .inr (by simp [h])
  ·rcases bestR_mem w l b with h | h
   ·exact .inl h
   ·exact .inr (by simp [h])
theorem best_ok {w : NW} (hv : vNet w = none) {r : Int} {a i : Nat} {l : List Nat} (h : rouW w r a = i :: l) : RouteOK w (roAt w (bestR w l i)):= by
 have hm : bestR w l i ∈ rouW w r a:= by
  rw [h]
  rcases bestR_mem w l i with h | h
  ·rw [h]; simp
  ·simp [h]
 obtain ⟨x,hx⟩:= rouW_mem hm
 have:= routeOK hv hx
 simpa [roAt,hx] using this
theorem lookN_cost {w : NW} (hv : vNet w = none) (r : Int) : ∀ (n a p v : Nat) (c : Int),lookN w r n a = some (p,v,c) → 0 ≤ c ∧ c ≤ 65535
 | n,a,p,v,c,h => by
  rw [lookN.eq_def] at h
  simp only at h
  split at h
  ·injection h with h
   have:= congrArg (fun q => q.2.2) h
   simp only at this
   omega
  ·split at h
   ·cases h
   ·rename_i i l hr
    cases n with
    | zero => cases h
    | succ n =>
     simp only at h
     have hb:= best_ok hv hr
     split at h
     ·cases h
     ·rename_i p' v' c' h'
      have ih:= lookN_cost hv r n _ p' v' c' h'
      injection h with h
      have:= congrArg (fun q => q.2.2) h
      simp only at this
      have h1:= hb.c0
      split at this <;> omega
end Go.Proofs.YtjceingdmfogeaaDoor.VL
end

section
set_option maxHeartbeats 4000000
namespace Go.Proofs.YtjceingdmfogeaaDoor.VL
open Go.RowKit Go.Proofs
def othersW (w : NW) (x : NPt) : List Nat:= (onW w x.lk).filter fun j => !(match w.pts[j]? with | some y => y.rt == x.rt | none => false)
def othersI (w : NW) (p : Int) : List Nat:= if 0 ≤ p ∧ p < (w.pts.length : Int) then (match w.pts[p.toNat]? with | some x => othersW w x | none => []) else []
theorem onW_of {w : NW} (hv : vNet w = none) {i : Nat} {x : NPt} (hx : w.pts[i]? = some x) : ∃ k : Nat,x.lk = (k : Int) ∧ k < w.lks.length ∧ onW w x.lk = idxK (onQ w k) w.pts.length:= by
 obtain ⟨k,hk,hkl⟩:= (portOK hv hx).lk
 refine ⟨k,hk,hkl,?_⟩
 simp only [onW,atF,hk]
 rw [if_pos (by omega)]
 simp
end Go.Proofs.YtjceingdmfogeaaDoor.VL
end

section
set_option maxHeartbeats 4000000
namespace Go.Proofs.YtjceingdmfogeaaDoor.VL
open Go.RowKit Go.Proofs
def nameN (c : UInt8) (n : Nat) : ByteArray:= ⟨#[c,UInt8.ofNat (48 + n)]⟩
def addrL (l n : Nat) : Nat:= 167772160 + 256 * l + n
theorem avBin_two (t : TypeId) (a b : UInt8) : avBin .add t (.lit (.string ⟨#[a]⟩)) (.lit (.string ⟨#[b]⟩)) = some (.lit (.string ⟨#[a,b]⟩)):= by
 rfl
theorem C_name (c : UInt8) (n : Nat) (hn : n < 10) : AC Tryd.prog f_q25 [avStr ⟨#[c]⟩,avI n] (.lit (.string (nameN c n))):= by
 refine ac_q25 ?_ (Nat.le_add_left 2 _)
 have f1 : ((n : Int) < 10) = True:= eq_true (by omega)
 have hw : IntKind.wrap .i64 (48 + (n : Int)) = ((48 + n : Nat) : Int):= by
  have:= wrap_nat (48 + n) (by omega)
  rwa [show (48 + (n : Int)) = ((48 + n : Nat) : Int) by omega]
 have hw2 : IntKind.wrap .i32 ((48 + n : Nat) : Int) = ((48 + n : Nat) : Int):= (by decide : ∀ n,n < 10 → IntKind.wrap .i32 ((48 + n : Nat) : Int) = ((48 + n : Nat) : Int)) n hn
 have hi:= avI2s_n .i32 ((48 + n : Nat) : Int) (by omega)
 simp only [go_sem,c_q25,avI,avStr,f1,decide_true,hw,hw2,hi,Int.toNat_natCast]
 rw [avBin_two]
 simp only [go_sem,nameN]
theorem bits_addr : ∀ l,l < 10 → ∀ n,n < 12 → bits .or .u32 (bits .or .u32 167772160 (IntKind.wrap .u32 (IntKind.wrap .u32 ((l : Nat) : Int) * 2 ^ 8))) (IntKind.wrap .u32 ((n : Nat) : Int)) = ((addrL l n : Nat) : Int):= by decide +kernel
theorem C_nAddr (l n : Nat) (hl : l < 10) (hn : n < 12) : AC Tryd.prog f_q18 [avI l,avI n] (avU (addrL l n)):= by
 refine ac_q18 ?_ (Nat.le_add_left 2 _)
 simp only [go_sem,c_q18,avI,avU,avBin_shl 45 .u32 .u64 _ 8 (by decide) (by decide),bits_addr l hl n hn]
def linkL (i : Nat) : NLk:= ⟨nameN 108 i,addrL i 0,24⟩
def rtrL (i : Nat) : NRt:= ⟨nameN 114 i,1⟩
def portL (r l : Nat) : NPt:= ⟨r,l,addrL l (r + 1)⟩
theorem C_nLink (i : Nat) (hi : i < 10) : AC Tryd.prog f_q24 [avI i] (avLink (linkL i)):= by
 refine ac_q24 ?_ (Nat.le_add_left 1 _)
 simp only [go_sem,c_q24,avI]
 refine callX_of (C_name 108 i hi) ?_
 simp only [go_sem]
 refine callX_of (C_nAddr i 0 hi (by decide)) ?_
 simp only [go_sem,avLink,linkL,avU,avStr]
theorem C_nPort (r l : Nat) (hr : r < 10) (hl : l < 10) : AC Tryd.prog f_q26 [avI r,avI l] (avPort (portL r l)):= by
 refine ac_q26 ?_ (Nat.le_add_left 2 _)
 have hw:= wrap_succ r (by omega)
 simp only [go_sem,c_q26,avI,hw]
 refine callX_of (C_nAddr l (r + 1) hl (by omega)) ?_
 simp only [go_sem,avPort,portL,avU]
def rowO (t : List Nat) (e : Nat) (l : List AV) : AV:= if l = [] then .sl .nil 0 [] else .sl (.own t) e l
theorem rowO_nil (t : List Nat) (e : Nat) : rowO t e [] = .sl .nil 0 []:= rfl
theorem rowO_cons (t : List Nat) (e : Nat) (x : AV) (l : List AV) : rowO t e (x :: l) = .sl (.own t) e (x :: l):= rfl
theorem rowO_ne {t : List Nat} {e : Nat} {l : List AV} (h : l ≠ []) : rowO t e l = .sl (.own t) e l:= if_neg h
def links (k : Nat) : List NLk:= (List.range k).map linkL
def L1 (n root i : Nat) : Env:= mkE [(0,avI n),(1,avI root),(4,.lp 4 0),(5,.lp 5 0),(6,avI i)] [(4,nils),(5,[.sl .nil 0 [],rowO [21] 3 ((links i).map avLink),.sl .nil 0 [],.sl .nil 0 [],.sl .nil 0 [],.sl .nil 0 [],.sl .nil 0 []])]
def rtrs (k : Nat) : List NRt:= (List.range k).map rtrL
def prts (k : Nat) : List NPt:= (List.range k).flatMap fun i => [portL i i,portL i (i + 1)]
theorem prts_succ (k : Nat) : prts (k + 1) = prts k ++ [portL k k,portL k (k + 1)]:= by simp [prts,List.range_succ]
theorem prts_len : ∀ k,(prts k).length = 2 * k
 | 0 => rfl
 | k + 1 => by rw [prts_succ,List.length_append,prts_len k]; simp; omega
def roA (i k : Nat) : NRo:= ⟨i,addrL k 0,24,addrL i i,((i - k : Nat) : Int)⟩
def roB (i k : Nat) : NRo:= ⟨i,addrL k 0,24,addrL (i + 1) (i + 2),((k - i : Nat) : Int)⟩
def rtsK (i k : Nat) : List NRo:= (List.range k).flatMap fun k => (if k < i then [roA i k] else []) ++ (if i + 1 < k then [roB i k] else [])
def rtsI (n i : Nat) : List NRo:= (List.range i).flatMap fun i => rtsK i (n + 1)
theorem rtsK_succ (i k : Nat) : rtsK i (k + 1) = rtsK i k ++ ((if k < i then [roA i k] else []) ++ (if i + 1 < k then [roB i k] else [])):= by simp [rtsK,List.range_succ]
theorem rtsI_succ (n i : Nat) : rtsI n (i + 1) = rtsI n i ++ rtsK i (n + 1):= by simp [rtsI,List.range_succ]
theorem rtsK_len (i : Nat) : ∀ k,(rtsK i k).length ≤ k
 | 0 => Nat.le_refl 0
 | k + 1 => by
  have:= rtsK_len i k
  rw [rtsK_succ,List.length_append,List.length_append]
  split <;> split <;> simp <;> omega
theorem rtsI_len (n : Nat) : ∀ i,(rtsI n i).length ≤ i * (n + 1)
 | 0 => Nat.zero_le _
 | i + 1 => by
  have:= rtsI_len n i
  have:= rtsK_len i (n + 1)
  rw [rtsI_succ,List.length_append,Nat.succ_mul]
  omega
theorem links_get {n k : Nat} (h : k < n) : (links n)[k]? = some (linkL k):= by simp [links,h]
theorem rts_len (n i k : Nat) (hn : n < 9) (hi : i < 9) (hk : k < 10) : (rtsI n i ++ rtsK i k).length ≤ 1000:= by
 have h1:= rtsI_len n i
 have h2:= rtsK_len i k
 have h3 : i * (n + 1) ≤ 9 * 10:= Nat.mul_le_mul (by omega) (by omega)
 rw [List.length_append]
 omega
def LC (n t : Nat) (rows : List AV) : List (Nat × List AV):= [(4,nils),(5,[rowO [34] 2 ((rtrs n).map avRouter),.sl (.own [21]) 3 ((links (n + 1)).map avLink),rowO [46] 3 ((prts n).map avPort),rowO [t] 5 rows,.sl .nil 0 [],.sl .nil 0 [],.sl .nil 0 []])]
def L3 (n root i t : Nat) : Env:= mkE [(0,avI n),(1,avI root),(4,.lp 4 0),(5,.lp 5 0),(8,avI i)] (LC n t ((rtsI n i).map avRoute))
def L4 (n root i k t : Nat) : Env:= mkE [(0,avI n),(1,avI root),(4,.lp 4 0),(5,.lp 5 0),(8,avI i),(9,avI k)] (LC n t ((rtsI n i ++ rtsK i k).map avRoute))
def L2 (n root i : Nat) : Env:= mkE [(0,avI n),(1,avI root),(4,.lp 4 0),(5,.lp 5 0),(7,avI i)] [(4,nils),(5,[rowO [34] 2 ((rtrs i).map avRouter),.sl (.own [21]) 3 ((links (n + 1)).map avLink),rowO [46] 3 ((prts i).map avPort),.sl .nil 0 [],.sl .nil 0 [],.sl .nil 0 [],.sl .nil 0 []])]
def lineO (n root : Nat) : List AV:= [.sl (.own [34]) 2 ((rtrs n).map avRouter),.sl (.own [21]) 3 ((links (n + 1)).map avLink),.sl (.own [46]) 3 ((prts n).map avPort),rowO [78] 5 ((rtsI n n).map avRoute),.sl (.own [111]) 3 [avRange ⟨3758096384,4,addrL root (root + 1)⟩],.sl .nil 0 [],.sl .nil 0 []]
theorem resOK_rowO (t : List Nat) (e : Nat) (l : List AV) : resOK (rowO t e l) = true:= by
 unfold rowO
 split <;> rfl
theorem resOK_line (n root : Nat) : resOK (.agg (lineO n root)) = true:= by
 have:= resOK_rowO [78] 5 ((rtsI n n).map avRoute)
 simp only [lineO,resOK,resOKL,this,Bool.and_self]
theorem C_LineO (n root : Nat) (hn0 : 0 < n) (hn : n < 9) (hr : root < 9) : AC Tryd.prog f_q12 [avI n,avI root] (.agg (lineO n root)):= by
 refine ac_q12 ?_ (Nat.le_add_left 2 _) (resOK_line n root)
 simp only [go_sem,c_q12,avI]
 refine aw_loop (fun m E => ∃ i : Nat,i + m = n + 1 ∧ E = L1 n root i) (n + 1) ?_ ?_
 ·exact ⟨0,by omega,by simp only [go_sem,L1]; rfl⟩
 ·rintro m _ ⟨i,him,rfl⟩
  by_cases hil : i ≤ n
  ·have f1 : ((i : Int) ≤ (n : Int)) = True:= eq_true (by omega)
   have hw:= wrap_succ i (by omega)
   cases i with
   | zero =>
    simp only [go_sem,L1,links,List.range_zero,List.map_nil,rowO_nil,avI,f1,decide_true]
    refine callX_of (C_nLink 0 (by decide)) ?_
    have ea : ∀ s c,avApp 3 32 [] 21 s c (.sl .nil 0 []) (.sl (.own [20]) 3 [avLink (linkL 0)]) = _:= fun s c => avApp_nil (d:= 21) (s:= s) (c:= c) 3 32 0 [] [] [avLink (linkL 0)] (.own [20]) (by decide) (by decide)
    simp only [go_sem,avLink,avU,avStr] at ea ⊢
    simp only [go_sem,ea]
    exact ⟨m - 1,by omega,1,by omega,rfl⟩
   | succ j =>
    have e1 : (links (j + 1 + 1)).map avLink = (links (j + 1)).map avLink ++ [avLink (linkL (j + 1))]:= by simp [links,List.range_succ]
    have e2 : rowO [21] 3 ((links (j + 1)).map avLink) = .sl (.own [21]) 3 ((links (j + 1)).map avLink):= rowO_ne (by simp [links])
    have e3 : rowO [21] 3 ((links (j + 1)).map avLink ++ [avLink (linkL (j + 1))]) = .sl (.own [21]) 3 ((links (j + 1)).map avLink ++ [avLink (linkL (j + 1))]):= rowO_ne (by simp)
    have hlen : ((links (j + 1)).map avLink).length + [avLink (linkL (j + 1))].length ≤ 4294967296:= by simp [links]; omega
    simp only [L1,e2]
    have hL:= C_nLink (j + 1) (by omega)
    have ea : ∀ s c,avApp 3 32 [] 21 s c (.sl (.own [21]) 3 ((links (j + 1)).map avLink)) (.sl (.own [20]) 3 [avLink (linkL (j + 1))]) = _:= fun s c => avApp_own (d:= 21) (s:= s) (c:= c) 3 32 [] [21] ((links (j + 1)).map avLink) [avLink (linkL (j + 1))] (.own [20]) hlen (by decide) rfl
    generalize (links (j + 1)).map avLink = R at *
    simp only [go_sem,avI,f1,decide_true]
    refine callX_of hL ?_
    simp only [go_sem,avLink,avU,avStr] at ea ⊢
    simp only [go_sem,ea,hw]
    refine ⟨m - 1,by omega,j + 1 + 1,by omega,?_⟩
    rw [e1,e3]
    rfl
  ·have f1 : ((i : Int) ≤ (n : Int)) = False:= eq_false (by omega)
   have ei : i = n + 1:= by omega
   subst ei
   have e2 : rowO [21] 3 ((links (n + 1)).map avLink) = .sl (.own [21]) 3 ((links (n + 1)).map avLink):= rowO_ne (by simp [links])
   simp only [go_sem,L1,e2,avI,f1,decide_false]
   refine aw_loop (fun m E => ∃ i : Nat,i + m = n ∧ E = L2 n root i) n ?_ ?_
   ·exact ⟨0,by omega,rfl⟩
   ·rintro m _ ⟨i,him,rfl⟩
    by_cases hil : i < n
    ·have f1 : ((i : Int) < (n : Int)) = True:= eq_true (by omega)
     have hw:= wrap_succ i (by omega)
     have hN:= C_name 114 i (by omega)
     have hP1:= C_nPort i i (by omega) (by omega)
     have hP2:= C_nPort i (i + 1) (by omega) (by omega)
     cases i with
     | zero =>
      simp only [go_sem,L2,rtrs,prts,List.range_zero,List.map_nil,List.flatMap_nil,rowO_nil,avI,f1,decide_true]
      refine callX_of hN ?_
      have ea : ∀ s c,avApp 2 24 [] 34 s c (.sl .nil 0 []) (.sl (.own [33]) 2 [avRouter (rtrL 0)]) = _:= fun s c => avApp_nil (d:= 34) (s:= s) (c:= c) 2 24 0 [] [] [avRouter (rtrL 0)] (.own [33]) (by decide) (by decide)
      have eb : ∀ s c,avApp 3 24 [] 46 s c (.sl .nil 0 []) (.sl (.own [45]) 3 [avPort (portL 0 0),avPort (portL 0 (0 + 1))]) = _:= fun s c => avApp_nil (d:= 46) (s:= s) (c:= c) 3 24 0 [] [] [avPort (portL 0 0),avPort (portL 0 (0 + 1))] (.own [45]) (by decide) (by decide)
      simp only [go_sem,avRouter,rtrL,avU,avStr] at ea ⊢
      simp only [go_sem,ea]
      refine callX_of hP1 ?_
      simp only [go_sem,hw]
      refine callX_of hP2 ?_
      simp only [go_sem,avPort,avU] at eb ⊢
      simp only [go_sem,eb,hw]
      exact ⟨m - 1,by omega,1,by omega,rfl⟩
     | succ j =>
      have e1 : (rtrs (j + 1 + 1)).map avRouter = (rtrs (j + 1)).map avRouter ++ [avRouter (rtrL (j + 1))]:= by simp [rtrs,List.range_succ]
      have e1' : (prts (j + 1 + 1)).map avPort = (prts (j + 1)).map avPort ++ [avPort (portL (j + 1) (j + 1)),avPort (portL (j + 1) (j + 1 + 1))]:= by simp [prts,List.range_succ]
      have e2 : rowO [34] 2 ((rtrs (j + 1)).map avRouter) = .sl (.own [34]) 2 ((rtrs (j + 1)).map avRouter):= rowO_ne (by simp [rtrs])
      have e2' : rowO [46] 3 ((prts (j + 1)).map avPort) = .sl (.own [46]) 3 ((prts (j + 1)).map avPort):= rowO_ne (by simp [prts,List.range_succ])
      have e3 : rowO [34] 2 ((rtrs (j + 1)).map avRouter ++ [avRouter (rtrL (j + 1))]) = .sl (.own [34]) 2 ((rtrs (j + 1)).map avRouter ++ [avRouter (rtrL (j + 1))]):= rowO_ne (by simp)
      have e3' : rowO [46] 3 ((prts (j + 1)).map avPort ++ [avPort (portL (j + 1) (j + 1)),avPort (portL (j + 1) (j + 1 + 1))]) = .sl (.own [46]) 3 ((prts (j + 1)).map avPort ++ [avPort (portL (j + 1) (j + 1)),avPort (portL (j + 1) (j + 1 + 1))]):= rowO_ne (by simp)
      have hlen : ((rtrs (j + 1)).map avRouter).length + [avRouter (rtrL (j + 1))].length ≤ 4294967296:= by simp [rtrs]; omega
      have hlen' : ((prts (j + 1)).map avPort).length + [avPort (portL (j + 1) (j + 1)),avPort (portL (j + 1) (j + 1 + 1))].length ≤ 4294967296:= by
       have:= prts_len (j + 1)
       simp [this]; omega
      simp only [L2,e2,e2']
      have ea : ∀ s c,avApp 2 24 [] 34 s c (.sl (.own [34]) 2 ((rtrs (j + 1)).map avRouter)) (.sl (.own [33]) 2 [avRouter (rtrL (j + 1))]) = _:= fun s c => avApp_own (d:= 34) (s:= s) (c:= c) 2 24 [] [34] ((rtrs (j + 1)).map avRouter) [avRouter (rtrL (j + 1))] (.own [33]) hlen (by decide) rfl
      have eb : ∀ s c,avApp 3 24 [] 46 s c (.sl (.own [46]) 3 ((prts (j + 1)).map avPort)) (.sl (.own [45]) 3 [avPort (portL (j + 1) (j + 1)),avPort (portL (j + 1) (j + 1 + 1))]) = _:= fun s c => avApp_own (d:= 46) (s:= s) (c:= c) 3 24 [] [46] ((prts (j + 1)).map avPort) [avPort (portL (j + 1) (j + 1)),avPort (portL (j + 1) (j + 1 + 1))] (.own [45]) hlen' (by decide) rfl
      generalize (rtrs (j + 1)).map avRouter = R at *
      generalize (prts (j + 1)).map avPort = Q at *
      simp only [go_sem,avI,f1,decide_true]
      refine callX_of hN ?_
      simp only [go_sem,avRouter,rtrL,avU,avStr] at ea ⊢
      simp only [go_sem,ea]
      refine callX_of hP1 ?_
      simp only [go_sem,hw]
      refine callX_of hP2 ?_
      simp only [go_sem,avPort,avU] at eb ⊢
      simp only [go_sem,eb,hw]
      refine ⟨m - 1,by omega,j + 1 + 1,by omega,?_⟩
      rw [e1,e1',e3,e3']
      rfl
    ·have f1 : ((i : Int) < (n : Int)) = False:= eq_false (by omega)
     have ei : n = i:= by omega
     subst ei
     simp only [go_sem,L2,avI,f1,decide_false]
     refine aw_loop (fun m E => ∃ i t : Nat,i + m = n ∧ (t = 78 ∨ t = 103) ∧ (i = n → 2 ≤ n → t = 78) ∧ E = L3 n root i t) n ?_ ?_
     ·exact ⟨0,78,by omega,.inl rfl,fun _ _ => rfl,rfl⟩
     ·rintro m _ ⟨i,t,him,ht,ht2,rfl⟩
      by_cases hil : i < n
      ·have f1 : ((i : Int) < (n : Int)) = True:= eq_true (by omega)
       have hw:= wrap_succ i (by omega)
       have er : rowO [34] 2 ((rtrs n).map avRouter) = .sl (.own [34]) 2 ((rtrs n).map avRouter):= rowO_ne (by simp [rtrs]; omega)
       have ep : rowO [46] 3 ((prts n).map avPort) = .sl (.own [46]) 3 ((prts n).map avPort):= rowO_ne (by
        intro e
        have:= congrArg List.length e
        rw [List.length_map,prts_len] at this
        simp at this
        omega)
       simp only [go_sem,L3,avI,f1,decide_true,LC]
       refine aw_loop (fun m E => ∃ k t : Nat,k + m = n + 1 ∧ (t = 78 ∨ t = 103) ∧ (i + 1 = n → 1 ≤ k → 1 ≤ i → t = 78) ∧ E = L4 n root i k t) (n + 1) ?_ ?_
       ·refine ⟨0,t,by omega,ht,fun _ h => absurd h (by omega),?_⟩
        simp only [go_sem,L4,LC,rtsK,List.range_zero,List.flatMap_nil,List.append_nil,avI,Int.natCast_zero]
       ·rintro m2 _ ⟨k,t,hkm,ht,ht3,rfl⟩
        by_cases hkn : k ≤ n
        ·have g1 : ((k : Int) ≤ (n : Int)) = True:= eq_true (by omega)
         have hw2:= wrap_succ k (by omega)
         by_cases hki : k < i
         ·have g2 : ((k : Int) < (i : Int)) = True:= eq_true (by omega)
          have g3 : ((k : Int) > ((i + 1 : Nat) : Int)) = False:= eq_false (by omega)
          have g4 : (((i + 1 : Nat) : Int) < (k : Int)) = False:= eq_false (by omega)
          have hA:= C_nAddr i i (by omega) (by omega)
          have hws : IntKind.wrap .i64 ((i : Int) - (k : Int)) = ((i - k : Nat) : Int):= by
           have:= wrap_nat (i - k) (by omega)
           rwa [show ((i - k : Nat) : Int) = (i : Int) - (k : Int) by omega] at this ⊢
          have e1 : (rtsI n i ++ rtsK i (k + 1)).map avRoute = (rtsI n i ++ rtsK i k).map avRoute ++ [avRoute (roA i k)]:= by
           rw [rtsK_succ,if_pos hki,if_neg (by omega)]
           simp
          have hl:= links_get (n:= n + 1) (k:= k) (by omega)
          have hlen:= rts_len n i k (by omega) (by omega) (by omega)
          simp only [L4,LC,e1,er,ep]
          have hR : ((rtsI n i ++ rtsK i k).map avRoute).length ≤ 1000:= by rw [List.length_map]; exact hlen
          generalize (rtsI n i ++ rtsK i k).map avRoute = R at *
          have hr3:= fun cs => avRow_some 3 (.own [21]) (AV.agg cs) rfl
          cases R with
          | nil =>
           have ea : ∀ s c,avApp 5 40 [] 78 s c (.sl .nil 0 []) (.sl (.own [77]) 5 [avRoute (roA i k)]) = _:= fun s c => avApp_nil (d:= 78) (s:= s) (c:= c) 5 40 0 [] [] [avRoute (roA i k)] (.own [77]) (by simp) (by decide)
           simp only [go_sem,avI,g1,g2,g3,g4,hw,decide_true,decide_false,rowO_nil,Int.natCast_nonneg,Int.toNat_natCast,List.getElem?_map,hl,Option.map_some,avLink,avU,hr3]
           refine callX_of hA ?_
           simp only [go_sem,avRoute,roA,avU,hws,linkL] at ea ⊢
           simp only [go_sem,ea,g1,g2,g3,g4,hw,decide_true,decide_false,hw2]
           exact ⟨m2 - 1,by omega,k + 1,78,by omega,.inl rfl,fun _ _ _ => rfl,by rw [e1]; rfl⟩
          | cons r rs =>
           have ea : ∀ s c,avApp 5 40 [] 78 s c (.sl (.own [t]) 5 (r :: rs)) (.sl (.own [77]) 5 [avRoute (roA i k)]) = _:= fun s c => avApp_own (d:= 78) (s:= s) (c:= c) 5 40 [] [t] (r :: rs) [avRoute (roA i k)] (.own [77]) (by simp at hR ⊢; omega) (by decide) rfl
           simp only [go_sem,avI,g1,g2,g3,g4,hw,decide_true,decide_false,rowO_cons,Int.natCast_nonneg,Int.toNat_natCast,List.getElem?_map,hl,Option.map_some,avLink,avU,hr3]
           refine callX_of hA ?_
           simp only [go_sem,avRoute,roA,avU,hws,linkL] at ea ⊢
           rcases ht with rfl | rfl
           all_goals
            simp only [go_sem,ea,g1,g2,g3,g4,hw,decide_true,decide_false,hw2]
            exact ⟨m2 - 1,by omega,k + 1,78,by omega,.inl rfl,fun _ _ _ => rfl,by rw [e1]; rfl⟩
         ·have g2 : ((k : Int) < (i : Int)) = False:= eq_false (by omega)
          by_cases hki2 : i + 1 < k
          ·have g3 : ((k : Int) > ((i + 1 : Nat) : Int)) = True:= eq_true (by omega)
           have g4 : (((i + 1 : Nat) : Int) < (k : Int)) = True:= eq_true (by omega)
           have hw3 : IntKind.wrap .i64 ((i : Int) + 2) = ((i + 2 : Nat) : Int):= wrap_nat (i + 2) (by omega)
           have hA:= C_nAddr (i + 1) (i + 2) (by omega) (by omega)
           have hws : IntKind.wrap .i64 ((k : Int) - (i : Int)) = ((k - i : Nat) : Int):= by
            have:= wrap_nat (k - i) (by omega)
            rwa [show ((k - i : Nat) : Int) = (k : Int) - (i : Int) by omega] at this ⊢
           have e1 : (rtsI n i ++ rtsK i (k + 1)).map avRoute = (rtsI n i ++ rtsK i k).map avRoute ++ [avRoute (roB i k)]:= by
            rw [rtsK_succ,if_neg (by omega),if_pos (by omega)]
            simp
           have hl:= links_get (n:= n + 1) (k:= k) (by omega)
           have hlen:= rts_len n i k (by omega) (by omega) (by omega)
           simp only [L4,LC,e1,er,ep]
           have hR : ((rtsI n i ++ rtsK i k).map avRoute).length ≤ 1000:= by rw [List.length_map]; exact hlen
           generalize (rtsI n i ++ rtsK i k).map avRoute = R at *
           have hr3:= fun cs => avRow_some 3 (.own [21]) (AV.agg cs) rfl
           cases R with
           | nil =>
            have ea : ∀ s c,avApp 5 40 [] 103 s c (.sl .nil 0 []) (.sl (.own [102]) 5 [avRoute (roB i k)]) = _:= fun s c => avApp_nil (d:= 103) (s:= s) (c:= c) 5 40 0 [] [] [avRoute (roB i k)] (.own [102]) (by simp) (by decide)
            simp only [go_sem,avI,g1,g2,g3,g4,hw,hw3,decide_true,decide_false,rowO_nil,Int.natCast_nonneg,Int.toNat_natCast,List.getElem?_map,hl,Option.map_some,avLink,avU,hr3]
            refine callX_of hA ?_
            simp only [go_sem,avRoute,roB,avU,hws,linkL] at ea ⊢
            simp only [go_sem,ea,g1,g2,g3,g4,hw,hw3,decide_true,decide_false,hw2]
            exact ⟨m2 - 1,by omega,k + 1,103,by omega,.inr rfl,fun h => absurd h (by omega),by rw [e1]; rfl⟩
           | cons r rs =>
            have ea : ∀ s c,avApp 5 40 [] 103 s c (.sl (.own [t]) 5 (r :: rs)) (.sl (.own [102]) 5 [avRoute (roB i k)]) = _:= fun s c => avApp_own (d:= 103) (s:= s) (c:= c) 5 40 [] [t] (r :: rs) [avRoute (roB i k)] (.own [102]) (by simp at hR ⊢; omega) (by decide) rfl
            simp only [go_sem,avI,g1,g2,g3,g4,hw,hw3,decide_true,decide_false,rowO_cons,Int.natCast_nonneg,Int.toNat_natCast,List.getElem?_map,hl,Option.map_some,avLink,avU,hr3]
            refine callX_of hA ?_
            simp only [go_sem,avRoute,roB,avU,hws,linkL] at ea ⊢
            rcases ht with rfl | rfl
            all_goals
             simp only [go_sem,ea,g1,g2,g3,g4,hw,hw3,decide_true,decide_false,hw2]
             exact ⟨m2 - 1,by omega,k + 1,103,by omega,.inr rfl,fun h => absurd h (by omega),by rw [e1]; rfl⟩
          ·have g3 : ((k : Int) > ((i + 1 : Nat) : Int)) = False:= eq_false (by omega)
           have g4 : (((i + 1 : Nat) : Int) < (k : Int)) = False:= eq_false (by omega)
           have e1 : (rtsI n i ++ rtsK i (k + 1)).map avRoute = (rtsI n i ++ rtsK i k).map avRoute:= by
            rw [rtsK_succ,if_neg (by omega),if_neg (by omega)]
            simp
           simp only [L4,LC,e1,er,ep]
           simp only [go_sem,avI,g1,g2,g3,g4,hw,hw2,decide_true,decide_false]
           exact ⟨m2 - 1,by omega,k + 1,t,by omega,ht,fun h1 _ h2 => ht3 h1 (by omega) h2,by rw [e1]⟩
        ·have g1 : ((k : Int) ≤ (n : Int)) = False:= eq_false (by omega)
         have ek : k = n + 1:= by omega
         subst ek
         simp only [go_sem,L4,LC,avI,g1,decide_false,hw]
         refine ⟨m - 1,by omega,i + 1,t,by omega,ht,fun h1 h2 => ht3 h1 (by omega) (by omega),?_⟩
         rw [rtsI_succ]
      ·have f1 : ((i : Int) < (n : Int)) = False:= eq_false (by omega)
       have ei : n = i:= by omega
       subst ei
       simp only [go_sem,L3,LC,avI,f1,decide_false]
       have hw:= wrap_succ root (by omega)
       have er : rowO [34] 2 ((rtrs n).map avRouter) = .sl (.own [34]) 2 ((rtrs n).map avRouter):= rowO_ne (by simp [rtrs]; omega)
       have ep : rowO [46] 3 ((prts n).map avPort) = .sl (.own [46]) 3 ((prts n).map avPort):= rowO_ne (by
        intro e
        have:= congrArg List.length e
        rw [List.length_map,prts_len] at this
        simp at this
        omega)
       refine callX_of C_rGroups ?_
       simp only [go_sem,avPfx,hw,er,ep]
       refine callX_of (C_nAddr root (root + 1) (by omega) (by omega)) ?_
       simp only [lineO]
       by_cases h2 : 2 ≤ n
       ·obtain rfl:= ht2 rfl h2
        generalize (rtsI n n).map avRoute = R
        cases R with
        | nil => simp only [go_sem,rowO_nil,avU,nils,avRange]
        | cons r rs => simp only [go_sem,rowO_cons,avU,nils,avRange]
       ·have e0 : (rtsI n n).map avRoute = []:= by
         obtain rfl : n = 1:= by omega
         rfl
        simp only [go_sem,e0,rowO_nil,avU,nils,avRange]
theorem rep_own {F : RE} {τ : List Nat} {e : Nat} {rows : List AV} {v : Value} (h : Rep F (.sl (.own τ) e rows) v) : Rep F (.sl .none e rows) v:= by
 simp only [Rep] at h ⊢
 obtain ⟨A,cap,vs,rfl,h1,h2,h3,h4,h5⟩:= h
 refine ⟨A,cap,vs,rfl,h1,h2,h3,h4,fun hne => ?_⟩
 rcases h5 with ⟨_,h0⟩ | ⟨g,cur,ty,rfl,hat,_⟩
 ·have : rows.length = 0:= by omega
  exact absurd (List.length_eq_zero_iff.1 this) hne
 ·exact ⟨g,0,rfl,hat⟩
theorem wk_own (τ : List Nat) (e : Nat) (rows : List AV) : Wk (.sl (.own τ) e rows) (.sl .none e rows):= fun _ _ h => rep_own h
theorem wk_rowO (τ : List Nat) (e : Nat) (rows : List AV) : Wk (rowO τ e rows) (.sl .none e rows):= by
 unfold rowO
 split
 ·rename_i h
  subst h
  exact wk_nil 0 e
 ·exact wk_own τ e rows
def lineW (n root : Nat) : NW:= ⟨rtrs n,links (n + 1),prts n,rtsI n n,[⟨3758096384,4,addrL root (root + 1)⟩],[],[]⟩
theorem C_Line (n root : Nat) (hn0 : 0 < n) (hn : n < 9) (hr : root < 9) : AC Tryd.prog f_q12 [avI n,avI root] (.agg (netV (lineW n root))) :=
 AC_weak (C_LineO n root hn0 hn hr) (wk_agg ⟨wk_own _ _ _,wk_own _ _ _,wk_own _ _ _,wk_rowO _ _ _,wk_own _ _ _,wk_nil _ _,wk_nil _ _,trivial⟩)
end Go.Proofs.YtjceingdmfogeaaDoor.VL
end

section
set_option maxHeartbeats 4000000
namespace Go.Proofs.YtjceingdmfogeaaDoor.VL
open Go.RowKit Go.Proofs
def wayL (r k : Nat) : Nat × Nat × Int:= if k < r then (2 * r,addrL r r,((r - k : Nat) : Int)) else if r + 1 < k then (2 * r + 1,addrL (r + 1) (r + 2),((k - r : Nat) : Int)) else (2 * r + k - r,0,0)
def lookB (n r k : Nat) : Bool:= decide (lookN (lineW (n + 1) 0) (r : Int) 6 (addrL k 77) = some (wayL r k))
theorem ln_lookB : ∀ n,n < 7 → ∀ r : Nat,r < n + 1 → ∀ k : Nat,k < n + 2 → lookB n r k = true:= by decide +kernel
theorem ln_look (n : Nat) (hn : n < 7) (r : Nat) (hr : r < n + 1) (k : Nat) (hk : k < n + 2) : lookN (lineW (n + 1) 0) (r : Int) 6 (addrL k 77) = some (wayL r k):= of_decide_eq_true (ln_lookB n hn r hr k hk)
theorem ln_of : ∀ n,n < 8 → ∀ i : Nat,i < n + 1 → ofW (lineW (n + 1) 0) (i : Int) = [2 * i,2 * i + 1] ∧ (othersI (lineW (n + 1) 0) ((2 * i : Nat) : Int)).length = min i 1:= by decide +kernel
theorem ln_on : ∀ n,n < 8 → ∀ i : Nat,i < n + 2 → (onW (lineW (n + 1) 0) (i : Int)).length = if i = 0 ∨ i = n + 1 then 1 else 2:= by decide +kernel
def atB8 (n i : Nat) : Bool:= match (lineW (n + 1) 0).pts[i]? with | some p => decide (atP (lineW (n + 1) 0) p.a = some i) && decide (p.a < 4294967296) | none => false
theorem ln_atB : ∀ n,n < 8 → (∀ i,i < 2 * (n + 1) → atB8 n i = true) ∧ atP (lineW (n + 1) 0) (addrL 99 1) = none:= by decide +kernel
theorem ln_v8 : ∀ n,n < 8 → vNet (lineW (n + 1) 0) = none:= by decide +kernel
theorem ln_ok8 (n : Nat) (h : n < 8) : (lineW (n + 1) 0).OK:= by
 have : n = 0 ∨ n = 1 ∨ n = 2 ∨ n = 3 ∨ n = 4 ∨ n = 5 ∨ n = 6 ∨ n = 7:= by omega
 rcases this with rfl | rfl | rfl | rfl | rfl | rfl | rfl | rfl <;> (constructor <;> decide +kernel)
end Go.Proofs.YtjceingdmfogeaaDoor.VL
end

section
set_option maxHeartbeats 4000000
namespace Go.Proofs.YtjceingdmfogeaaDoor.VL
open Go.RowKit Go.Proofs
theorem C_Groups (w : NW) (hl : (rise (zs (gsL w))).length ≤ 4294967296) : AC Tryd.prog f_q33 [.rp (topoV w)] (.sl .none 1 ((rise (zs (gsL w))).map aI)):= by
 refine ac_q33 ?_ (Nat.le_add_left 1 _)
 simp only [go_sem,c_q33,topoV,tC]
 refine callX_of (K_Addr _ (by simpa using hl)) ?_
 simp only [go_sem]
theorem C_first8 : AC Tryd.prog f_q11 [] (.lit (.bool true)):= by
 refine ac_q11 ?_ (Nat.zero_le _)
 simp only [go_sem,c_q11]
 refine callX_of C_New0 ?_
 simp only [go_sem]
 refine callX_of (C_Groups w0 (by simp [gsL,mgs,w0,rise,zs,dd])) ?_
 have e : (rise (zs (gsL w0))).map aI = []:= by simp [gsL,mgs,w0,rise,zs,dd]
 simp only [go_sem,e,List.length_nil]
 rfl
end Go.Proofs.YtjceingdmfogeaaDoor.VL
end

section
set_option maxHeartbeats 4000000
namespace Go.Proofs.YtjceingdmfogeaaDoor.VL
open Go.RowKit Go.Proofs
structure KI (p : Nat → Bool) (o : List Nat) (j k : Nat) (x : List Nat) : Prop where
 size : x.length = o.length
 lt : k < j
 le : j ≤ o.length
 pre : x.take k = (o.take j).filter fun n => !p n
 post : ∀ i,j ≤ i → x[i]? = o[i]?
theorem filter_take {p : Nat → Bool} {o : List Nat} {j a : Nat} (hj : o[j]? = some a) : (o.take (j + 1)).filter p = (o.take j).filter p ++ if p a then [a] else []:= by
 rw [List.take_add_one,hj,Option.toList_some,List.filter_append,List.filter_cons,List.filter_nil]
theorem KI.del {p : Nat → Bool} {o x : List Nat} {j k a : Nat} (h : KI p o j k x) (hj : o[j]? = some a) (hp : p a = true) : KI p o (j + 1) k x:= by
 have hl:= (List.getElem?_eq_some_iff.1 hj).1
 have:= h.lt
 refine ⟨h.size,by omega,by omega,?_,fun i hi => h.post i (by omega)⟩
 rw [filter_take hj,hp,h.pre]
 simp
theorem KI.keep {p : Nat → Bool} {o x : List Nat} {j k a : Nat} (h : KI p o j k x) (hj : o[j]? = some a) (hp : p a = false) : KI p o (j + 1) (k + 1) (x.set k a):= by
 have hl:= (List.getElem?_eq_some_iff.1 hj).1
 have h1:= h.lt
 have h2:= h.size
 refine ⟨by rw [List.length_set,h2],by omega,by omega,?_,fun i hi => ?_⟩
 ·rw [filter_take hj,hp,List.take_add_one,List.getElem?_set_self (by omega),List.take_set_of_le (Nat.le_refl k),h.pre]
  simp
 ·rw [List.getElem?_set_ne (by omega)]
  exact h.post i (by omega)
theorem KI.fin {p : Nat → Bool} {o x : List Nat} {k : Nat} (h : KI p o o.length k x) : x.take k = o.filter (fun n => !p n) ∧ (o.filter fun n => !p n).length = k:= by
 have h1:= h.pre
 rw [List.take_length] at h1
 refine ⟨h1,?_⟩
 have:= h.lt
 have:= h.size
 rw [← h1,List.length_take]
 omega
theorem KI.start (p : Nat → Bool) (l : List Nat) : (idxOf p l = -1 ∧ l.filter (fun n => !p n) = l) ∨ ∃ i : Nat,i < l.length ∧ idxOf p l = (i : Int) ∧ KI p l (i + 1) i l:= by
 cases h : l.findIdx? p with
 | none =>
  refine .inl ⟨by rw [idxOf,h],?_⟩
  rw [List.findIdx?_eq_none_iff] at h
  rw [List.filter_eq_self]
  intro a ha
  simp [h a ha]
 | some i =>
  refine .inr ⟨i,?_⟩
  rw [List.findIdx?_eq_some_iff_getElem] at h
  have e : idxOf p l = (i : Int):= by
   rw [idxOf,List.findIdx?_eq_some_iff_getElem.2 h]
  obtain ⟨hi,hp,hall⟩:= h
  refine ⟨hi,e,rfl,by omega,by omega,?_,fun _ _ => rfl⟩
  rw [filter_take (List.getElem?_eq_getElem hi),hp]
  simp only [Bool.not_true,Bool.false_eq_true,if_false,List.append_nil]
  refine (List.filter_eq_self.2 fun a ha => ?_).symm
  obtain ⟨j,hj⟩:= List.getElem?_of_mem ha
  have hjl : j < i:= by
   have:= (List.getElem?_eq_some_iff.1 hj).1
   rw [List.length_take] at this
   omega
  rw [List.getElem?_take_of_lt hjl] at hj
  obtain ⟨hjL,ej⟩:= List.getElem?_eq_some_iff.1 hj
  have:= hall j hjl
  rw [ej] at this
  simpa using this
theorem C_IndexFuncI {f : FuncId} {fst caps : List AV} {asf : Nat → List AV} {p : Nat → Bool} (t : Tok) (e : Nat) (l : List Nat) (hf : frB t = false) (he : e = 1 ∨ l = []) (hl : l.length < 9223372036854775808)
    (hlow : ∀ n, mapO (lower (getC []) 8) (fst ++ [(avI n)] ++ caps) = some (asf n)) (hAC : ∀ n ∈ l, AC Tryd.prog f (asf n) (.lit (.bool (p n)))) :
    AC Tryd.prog f_q58 [.sl t e (l.map avI), .clo (.func f) fst caps] (.lit (.int .i64 (idxOf p l))) := by
  refine ac_q58 ?_ (Nat.le_add_left 2 17)
  simp only [go_sem, c_q58]
  refine aw_loop (fun m E => ∃ k, k + m = l.length ∧ (∀ (j : Nat) (y : Nat), j < k → l[j]? = some y → p y = false) ∧ E = mkE [(0, .sl t e (l.map avI)), (1, .clo (.func f) fst caps), (7, .lit (.int .i64 l.length)), (8, .lit (.int .i64 (k : Nat)))] []) l.length ?_ ?_
  · exact ⟨0, by omega, fun j y hj => absurd hj (Nat.not_lt_zero j), by simp only [go_sem, Int.ofNat_zero]⟩
  · rintro m _ ⟨k, hk, hall, rfl⟩
    simp only [go_sem]
    refine condX_of (fun h => ?_) (fun h => ?_)
    · have hkl : k < l.length := by simpa using h
      obtain rfl : e = 1 := he.resolve_right (fun h => by rw [h] at hkl; simp at hkl)
      obtain ⟨x, hx⟩ : ∃ x, l[k]? = some x := ⟨l[k], List.getElem?_eq_getElem hkl⟩
      have hw := wrap_succ k (by omega)
      have hlx := hlow x
      simp only [avI] at hlx
      simp only [go_sem, h, hx, Int.toNat_natCast, Int.natCast_nonneg, List.getElem?_map, avRow_some, hf, avI, hlx]
      refine callX_of (hAC x (List.mem_of_getElem? hx)) ?_
      cases hp : p x
      · simp only [go_sem, hw]
        refine ⟨m - 1, by omega, k + 1, by omega, fun j y hj hy => ?_, rfl⟩
        by_cases hjk : j = k
        · subst hjk
          rw [hx] at hy
          injection hy with hy
          rw [← hy]
          exact hp
        · exact hall j y (by omega) hy
      · simp only [go_sem, idxOf_some hx hp hall]
    · have hkl : k = l.length := by have : ¬ k < l.length := by simpa using h
                                    omega
      have e : idxOf p l = -1 := idxOf_none fun i x hi => hall i x (by have := (List.getElem?_eq_some_iff.1 hi).1; omega) hi
      simp only [go_sem, h, e]
theorem chunk_nats : ∀ l : List Nat,chunk false 1 l.length (l.map avI) = l.map avI
 | [] => rfl
 | a :: l => by simp only [List.length_cons,List.map_cons,chunk,List.take_succ_cons,List.take_zero,List.headD_cons,List.drop_succ_cons,List.drop_zero,chunk_nats l]
theorem cells_nats : ∀ l : List Nat,(l.map avI).flatMap cellsOf = l.map avI
 | [] => rfl
 | a :: l => by
  simp only [List.map_cons,List.flatMap_cons,cells_nats l]
  rfl
theorem lowM_ints {l : List Nat} {tl : List AV} {cap : Nat} (hc : l.length ≤ cap) : lowM l.length cap 0 false 1 (some (l.map avI ++ tl)) = some (.sl .bor 1 (l.map avI)):= by
 have h1 : 0 + l.length * 1 ≤ (l.map avI ++ tl).length ∧ l.length ≤ cap ∧ (false = true ∨ (1 : Nat) = 1):= ⟨by simp,hc,.inr rfl⟩
 have h2 : ((l.map avI ++ tl).drop 0).take (l.length * 1) = l.map avI:= by
  rw [List.drop_zero,Nat.mul_one,List.take_append_of_le_length (by simp),List.take_of_length_le (by simp)]
 have h3 : mapO closeV (l.map avI) = some (l.map avI):= mapO_id fun x hx => by
  obtain ⟨n,_,rfl⟩:= List.mem_map.1 hx
  rfl
 show (if 0 + l.length * 1 ≤ (l.map avI ++ tl).length ∧ l.length ≤ cap ∧ (false = true ∨ (1 : Nat) = 1) then (match mapO closeV (((l.map avI ++ tl).drop 0).take (l.length * 1)) with
  | some l' => some (AV.sl .bor 1 (chunk false 1 l.length l'))
  | none => none) else none) = _
 rw [if_pos h1,h2,h3]
 show some (AV.sl .bor 1 (chunk false 1 l.length (l.map avI))) = _
 rw [chunk_nats]
theorem ret_ints (C : Nat → Option (List AV)) (l : List Nat) {tl : List AV} (ht : Tl tl) : mapO (retv C false 8) (l.map avI ++ tl) = some (l.map avI ++ tl):= by
 refine mapO_id fun x hx => ?_
 rcases List.mem_append.1 hx with hx | hx
 ·obtain ⟨n,_,rfl⟩:= List.mem_map.1 hx
  rfl
 ·rcases ht x hx with rfl | ⟨v,rfl⟩ <;> rfl
theorem close_ints (l : List Nat) {tl : List AV} (ht : Tl tl) : mapO closeV (l.map avI ++ tl) = some (l.map avI ++ tl):= by
 refine mapO_id fun x hx => ?_
 rcases List.mem_append.1 hx with hx | hx
 ·obtain ⟨n,_,rfl⟩:= List.mem_map.1 hx
  rfl
 ·rcases ht x hx with rfl | ⟨v,rfl⟩ <;> rfl
theorem retC_ints {s : List (Nat × AV)} {l : List Nat} {tl : List AV} (ht : Tl tl) : retC (mkE s [(100000,l.map avI ++ tl)]) [100000] = some [(100000,l.map avI ++ tl)]:= by
 simp only [retC,mapO_cons,mapO_nil,mkE_c,getC_cons,↓reduceIte,ret_ints _ l ht,catO_some]
theorem C_DeleteFunc {f : FuncId} {fst caps : List AV} {asf : Nat → List AV} {p : Nat → Bool} {cap : Nat} {tl : List AV} (ht : Tl tl) (l : List Nat) (hc : l.length ≤ cap) (hl : l.length ≤ 4611686018427387904)
  (hfst : ∀ C,mapO (lower C 7) fst = some fst) (hcaps : ∀ C,mapO (lower C 7) caps = some caps)
  (hlow : ∀ C n,mapO (lower C 8) (fst ++ [avI n] ++ caps) = some (asf n)) (hAC : ∀ n ∈ l,AC Tryd.prog f (asf n) (.lit (.bool (p n)))) :
  AM Tryd.prog f_q35 [.ml 100000 0 l.length cap false 1,.clo (.func f) fst caps] [(100000,l.map avI ++ tl)] (.ml 100000 0 (l.filter fun n => !p n).length cap false 1)
   [(100000,(l.filter fun n => !p n).map avI ++ (List.replicate (l.length - (l.filter fun n => !p n).length) (avI 0) ++ tl))]:= by
 refine am_q35 ?_ (by simp) (Nat.le_add_left 2 _)
 have hI:= C_IndexFuncI (t:= .bor) (e:= 1) (p:= p) (fst:= fst) (caps:= caps) (f:= f) l rfl (.inl rfl) (by omega) (hlow _) hAC
 simp only [go_sem,env0M_mk,c_q35,List.map_cons,List.map_nil,lowM_ints hc,hfst,hcaps]
 refine callX_of hI ?_
 rcases KI.start p l with ⟨e1,e2⟩ | ⟨i,hi,e1,hK⟩
 ·have f0 : ((-1 : Int) == -1) = true:= rfl
  simp only [go_sem,e1]
  refine shiftX_refl ?_
  simp only [go_sem,f0,endM_n,endM_r,e2]
  rw [Nat.sub_self,List.replicate_zero,List.nil_append]
  exact retC_ints ht
 have f0 : ((i : Int) == -1) = false:= by simp
 have wi:= iwn (i + 1) (by omega : (i : Int) + 1 = ((i + 1 : Nat) : Int)) (by omega)
 simp only [go_sem,e1]
 refine shiftX_refl ?_
 simp only [go_sem,f0,wi]
 refine aw_loop (fun m E => ∃ (j k : Nat) (x : List Nat),KI p l j k x ∧ l.length - j ≤ m ∧ E = mkE [(0,.ml 100000 0 l.length cap false 1),(1,.clo (.func f) fst caps),(5,iI k),(6,iI j)] [(100000,x.map avI ++ tl)]) l.length ?_ ?_
 ·exact ⟨i + 1,i,l,hK,by omega,rfl⟩
 ·rintro m _ ⟨j,k,x,hx,hm,rfl⟩
  have hle:= hx.le
  have hlt:= hx.lt
  have hsz:= hx.size
  by_cases hjn : j < l.length
  ·have f4 : ((j : Int) < (l.length : Int)) = True:= eq_true (by omega)
   obtain ⟨a,ha⟩ : ∃ a,l[j]? = some a:= ⟨l[j],List.getElem?_eq_getElem hjn⟩
   have hxa : x[j]? = some a:= by rw [hx.post j (Nat.le_refl _)]; exact ha
   have w4:= iwn (j + 1) (by omega : (j : Int) + 1 = ((j + 1 : Nat) : Int)) (by omega)
   have w5:= iwn (k + 1) (by omega : (k : Int) + 1 = ((k + 1 : Nat) : Int)) (by omega)
   have b3 : (k : Int) < (l.length : Int):= by omega
   have g3 : aval.ld false 1 ((x.map avI ++ tl).drop j) = some (avI a):= by
    rw [ld_drop,List.getElem?_append_left (by rw [List.length_map]; omega),List.getElem?_map,hxa]
    rfl
   have l1 : k + 1 ≤ (x.map avI ++ tl).length:= by rw [List.length_append,List.length_map]; omega
   have s1:= put_set (x.map avI) tl k (avI a) (by rw [List.length_map]; omega)
   have s2 : (x.map avI).set k (avI a) = (x.set k a).map avI:= by rw [List.map_set]
   rw [s2] at s1
   have hlx:= hlow (getC [(100000,x.map avI ++ tl)]) a
   simp only [avI] at g3 hlx s1
   have hA:= hAC a (List.mem_of_getElem? ha)
   simp only [go_sem,f4,decide_true,g3,hlx,Int.natCast_nonneg,Int.toNat_natCast,Nat.zero_add,Nat.mul_one]
   refine callX_of hA ?_
   cases hp : p a
   ·simp only [go_sem,f4,decide_true,w4,w5,l1,s1,b3,Int.natCast_nonneg,Int.toNat_natCast,Nat.zero_add,Nat.mul_one]
    exact ⟨m - 1,by omega,j + 1,k + 1,_,hx.keep ha hp,by omega,rfl⟩
   ·simp only [go_sem,w4]
    exact ⟨m - 1,by omega,j + 1,k,x,hx.del ha hp,by omega,rfl⟩
  ·have f4 : ((j : Int) < (l.length : Int)) = False:= eq_false (by omega)
   obtain rfl : j = l.length:= by omega
   obtain ⟨hpre,hlen⟩:= hx.fin
   have hs1 : 0 ≤ (k : Int) ∧ (k : Int) ≤ (l.length : Int) ∧ (l.length : Int) ≤ (l.length : Int) ∧ ((k : Int) < cap ∨ (k : Int) = 0) ∧ l.length ≤ cap:= by omega
   have hs2 : 0 ≤ ((0 : Nat) : Int) ∧ ((0 : Nat) : Int) ≤ (k : Int) ∧ (k : Int) ≤ (l.length : Int) ∧ (((0 : Nat) : Int) < cap ∨ ((0 : Nat) : Int) = 0) ∧ l.length ≤ cap:= by omega
   have hcl : (1 : Nat) = [AV.lit (.int .i64 0)].length ∧ k + (l.length - k) * 1 ≤ (x.map avI ++ tl).length ∧ oneL [AV.lit (.int .i64 0)] = true:= ⟨rfl,by rw [List.length_append,List.length_map]; omega,rfl⟩
   have hce : (x.map avI ++ tl).take k ++ (List.replicate (l.length - k) [AV.lit (.int .i64 0)]).flatten ++ (x.map avI ++ tl).drop (k + (l.length - k)) = (l.filter fun n => !p n).map avI ++ (List.replicate (l.length - k) (avI 0) ++ tl):= by
    have e1 : (x.map avI ++ tl).take k = (l.filter fun n => !p n).map avI:= by
     rw [List.take_append_of_le_length (by simp; omega),← List.map_take,hpre]
    have e2 : (x.map avI ++ tl).drop (k + (l.length - k)) = tl:= List.drop_left' (by simp; omega)
    have e3 : ∀ n : Nat,(List.replicate n [AV.lit (.int .i64 0)]).flatten = List.replicate n (avI 0):= by
     intro n
     induction n with
     | zero => rfl
     | succ n ih => rw [List.replicate_succ,List.flatten_cons,ih]; rfl
    rw [e1,e2,e3,List.append_assoc]
   simp only [go_sem,f4,decide_false,avSlM_some 1 100000 0 l.length cap false (k : Int) (l.length : Int) hs1,avSlM_some 1 100000 0 l.length cap false ((0 : Nat) : Int) (k : Int) hs2,Int.toNat_natCast,Nat.zero_add,Nat.mul_one,Int.toNat_zero,Nat.zero_mul,Nat.sub_zero]
   simp only [go_sem,clrM_some (c:= [(100000,x.map avI ++ tl)]) [AV.lit (.int .i64 0)] 100000 k (l.length - k) 1 (x.map avI ++ tl) hcl,hce,avSlM_some 1 100000 0 l.length cap false ((0 : Nat) : Int) (k : Int) hs2,Int.toNat_natCast,Nat.zero_add,Nat.mul_one,Int.toNat_zero,Nat.zero_mul,Nat.sub_zero,endM_n,endM_r,hlen,true_and]
   exact retC_ints (by
    intro y hy
    rcases List.mem_append.1 hy with hy | hy
    ·exact .inr ⟨_,List.eq_of_mem_replicate hy⟩
    ·exact ht y hy)
theorem C_listF (f : Nat → List Nat) (n i : Nat) (hi : i < n) (hn : n ≤ 4294967296) (hf : ∀ j,(f j).length ≤ 4294967296) (h0 : f i ≠ []) : ∃ τ,AC Tryd.prog f_q34 [.sl .none 1 (rowsN f n),.lit (.int .i64 (i : Nat))] (.sl (.fr τ) 1 ((f i).map avI)):= by
 have f1 : ((i : Int) < 0) = False:= eq_false (by omega)
 have f2 : ((n : Int) ≤ (i : Int)) = False:= eq_false (by omega)
 have hg:= rowsN_get f n i hi
 rw [if_neg h0] at hg
 have hr:= fun e rows => avRow_some 1 .none (AV.sl .none e rows) rfl
 refine ⟨[17,7],ac_q34 ?_ (Nat.le_add_left 2 _)⟩
 simp only [go_sem,c_q34,f1,f2,rowsN_len,decide_false,hg,hr,Int.natCast_nonneg,Int.toNat_natCast]
 refine callX_of (KF_Int ((f i).map avI) (by simpa using h0) (by simpa using hf i)) ?_
 simp only [go_sem]
theorem C_OnF (w : NW) (hf : w.Fit) (i : Nat) (hi : i < w.lks.length) (h0 : idxK (onQ w i) w.pts.length ≠ []) : ∃ τ,AC Tryd.prog f_q16 [.rp (topoV w),.lit (.int .i64 (i : Nat))] (.sl (.fr τ) 1 ((idxK (onQ w i) w.pts.length).map avI)):= by
 obtain ⟨τ,h⟩:= C_listF (fun j => idxK (onQ w j) w.pts.length) w.lks.length i hi hf.l2 (fun j => Nat.le_trans (idxK_len _ _) hf.l3) h0
 refine ⟨10 :: τ,ac_q16 ?_ (Nat.le_add_left 2 _)⟩
 simp only [go_sem,c_q16,topoV,tC,ONv]
 refine callX_of h ?_
 simp only [go_sem]
theorem C_Others_1 (w : NW) (x : NPt) (j : Nat) (y : NPt) (hy : w.pts[j]? = some y) : AC Tryd.prog f_q36 [avI j,.bp [.rp (topoV w)],.bp [.lit (.int .i64 x.rt),.lit (.int .i64 x.lk),avU x.a]] (.lit (.bool (y.rt == x.rt))):= by
 refine ac_q36 ?_ (Nat.le_add_left 3 _)
 simp only [go_sem,c_q36,topoV,tC,avI,Int.natCast_nonneg,Int.toNat_natCast,List.getElem?_map,hy,Option.map_some,rowAgg,avPort,avU]
theorem call0i_of {P : Program} {dst : Option Nat} {os : List AOper} {s : List (Nat × AV)} {c' : List (Nat × List AV)} {K : Env → Prop} {f : FuncId} {raw al : List AV} {args : Option (List AV)} {r : AV} {l : List Nat} {tl y : List AV} (ht : Tl tl)
  (hl : mapO (lowerM [(0,100000)] (getC ((0,l.map avI ++ tl) :: c')) 8) raw = some al) (h : AM P f al [(100000,l.map avI ++ tl)] r [(100000,y)])
  (hk : awX false P os ((mkE s ((0,y) :: c')).putO dst (retag (dst.getD 0) (unlend [(0,100000)] r))) K) : callX false P dst os s ((0,l.map avI ++ tl) :: c') K f raw args:= by
 refine callM_of [(0,100000)] rfl hl ?_ h ?_
 ·show mapO _ _ = _
  simp only [mapO_cons,mapO_nil,getC_cons,↓reduceIte,close_ints l ht,catO_some]
 ·rw [back_0c]
  exact hk
theorem C_Others (w : NW) (hf : w.Fit) (hv : vNet w = none) (p : Int) : AC Tryd.prog f_q15 [.rp (topoV w),.lit (.int .i64 p)] (.sl .none 1 ((othersI w p).map avI)):= by
 by_cases h0 : p < 0
 ·have e : othersI w p = []:= if_neg (by omega)
  rw [e]
  refine AC_weak (r:= .sl .nil 0 []) (ac_q15 ?_ (Nat.le_add_left 2 _)) (fun E v h => rep_sl0 h)
  have f1 : (p < 0) = True:= eq_true h0
  simp only [go_sem,c_q15,f1,decide_true]
 have f1 : (p < 0) = False:= eq_false h0
 by_cases h1 : (w.pts.length : Int) ≤ p
 ·have e : othersI w p = []:= if_neg (by omega)
  rw [e]
  refine AC_weak (r:= .sl .nil 0 []) (ac_q15 ?_ (Nat.le_add_left 2 _)) (fun E v h => rep_sl0 h)
  have f2 : ((w.pts.length : Int) ≤ p) = True:= eq_true h1
  simp only [go_sem,c_q15,topoV,tC,List.length_map,f1,f2,decide_true,decide_false]
 have f2 : ((w.pts.length : Int) ≤ p) = False:= eq_false h1
 obtain ⟨q,rfl⟩ : ∃ q : Nat,p = (q : Int):= ⟨p.toNat,by omega⟩
 obtain ⟨x,hx⟩ : ∃ x,w.pts[q]? = some x:= ⟨w.pts[q]'(by omega),List.getElem?_eq_getElem (by omega)⟩
 have e : othersI w (q : Int) = othersW w x:= by
  simp only [othersI]
  rw [if_pos (by omega),Int.toNat_natCast,hx]
 rw [e]
 obtain ⟨k,hk,hkl,eon⟩:= onW_of hv hx
 have hne : idxK (onQ w k) w.pts.length ≠ []:= by
  intro h
  have : q ∈ idxK (onQ w k) w.pts.length:= mem_idx.2 ⟨by omega,by simp [onQ,hx,hk]⟩
  rw [h] at this
  cases this
 obtain ⟨τ,hOn⟩:= C_OnF w hf k hkl hne
 have hlen:= idxK_len (onQ w k) w.pts.length
 have hl3:= hf.l3
 have hO1 : ∀ n ∈ idxK (onQ w k) w.pts.length,AC Tryd.prog f_q36 [avI n,.bp [.rp (topoV w)],.bp [.lit (.int .i64 x.rt),.lit (.int .i64 x.lk),avU x.a]] (.lit (.bool (match w.pts[n]? with | some y => y.rt == x.rt | none => false))):= by
  intro n hn
  have hnl:= (mem_idx.1 hn).1
  have hy : w.pts[n]? = some w.pts[n]:= List.getElem?_eq_getElem hnl
  rw [hy]
  exact C_Others_1 w x n _ hy
 simp only [othersW,eon]
 rw [hk] at hO1
 refine ac_q15 ?_ (Nat.le_add_left 2 _)
 generalize hT : topoV w = T at *
 have hT1 : (7 ≤ T.length) = True:= eq_true (by rw [← hT]; exact Nat.le_of_ble_eq_true rfl)
 have hT2 : T.take 7 = netV w:= by rw [← hT]; rfl
 simp only [go_sem,c_q15,f1,f2,hT1,hT2,netV,avU,decide_false,List.length_map,Int.natCast_nonneg,Int.toNat_natCast,List.getElem?_map,hx,Option.map_some,rowAgg,avPort,hk]
 refine callX_of hOn ?_
 simp only [go_sem]
 generalize idxK (onQ w k) w.pts.length = L at *
 have hLl : L.length ≤ 4294967296:= by omega
 refine splitX_of (VS.adopt (p:= .slot 29) (g:= false) 0 rfl (by simpa using hne) (fun r hr => ?_) (by decide) rfl) ?_
 ·obtain ⟨n,_,rfl⟩:= List.mem_map.1 hr
  rfl
 rintro _ ⟨cap,j,hcap,rfl⟩
 rw [cells_nats]
 rw [List.length_map] at hcap ⊢
 simp only [mkE_strip]
 rw [set_slot,mkE_putc]
 have ht : Tl (List.replicate j .dead):= fun x hx => .inl (List.eq_of_mem_replicate hx)
 generalize List.replicate j AV.dead = tl at ht ⊢
 have hD:= C_DeleteFunc (f:= f_q36) (fst:= []) (caps:= [.bp [.rp T],.bp [.lit (.int .i64 x.rt),.lit (.int .i64 (k : Nat)),avU x.a]]) (asf:= fun n => [avI n,.bp [.rp T],.bp [.lit (.int .i64 x.rt),.lit (.int .i64 (k : Nat)),avU x.a]])
  (p:= fun n => match w.pts[n]? with | some y => y.rt == x.rt | none => false) (cap:= cap) ht L hcap (by omega) (fun C => rfl) (fun C => rfl) (fun C n => rfl) hO1
 have hle : (L.filter fun n => !(match w.pts[n]? with | some y => y.rt == x.rt | none => false)).length ≤ L.length:= List.length_filter_le _ _
 generalize L.filter (fun n => !(match w.pts[n]? with | some y => y.rt == x.rt | none => false)) = M at *
 have hret : ∀ (C : Nat → Option (List AV)) (n : Nat),retM C (n + 1) 0 M.length cap false 1 (some (M.map avI ++ (List.replicate (L.length - M.length) (avI 0) ++ tl))) = some (.sl .none 1 (M.map avI)):= by
  intro C n
  rw [retM_some (l:= M.map avI) 0 M.length cap false 1 _ (show 0 + M.length * 1 ≤ (M.map avI ++ (List.replicate (L.length - M.length) (avI 0) ++ tl)).length ∧ M.length ≤ cap ∧ (false = true ∨ (1 : Nat) = 1) from ⟨by simp,by omega,.inr rfl⟩) ?_,chunk_nats]
  rw [List.drop_zero,Nat.mul_one,List.take_append_of_le_length (by simp),List.take_of_length_le (by simp)]
  refine mapO_id fun x hx => ?_
  obtain ⟨n,_,rfl⟩:= List.mem_map.1 hx
  rfl
 simp only [go_sem]
 refine call0i_of ht rfl hD ?_
 simp only [go_sem,hret]
end Go.Proofs.YtjceingdmfogeaaDoor.VL
end

section
set_option maxHeartbeats 4000000
namespace Go.Proofs.YtjceingdmfogeaaDoor.VL
open Go.RowKit Go.Proofs
theorem C_SameInts (l m : List Int) (hl : l.length < 9223372036854775808) : AC Tryd.prog f_q13 [.sl .none 1 (l.map iI),.sl .none 1 (m.map iI)] (.lit (.bool (decide (l = m)))):= by
 refine ac_q13 ?_ (Nat.le_add_left 2 _)
 by_cases h0 : l.length = m.length
 case neg =>
  have f0 : ((l.length : Int) != (m.length : Int)) = true:= by simp; omega
  have e0 : decide (l = m) = false:= by
   simp only [decide_eq_false_iff_not]
   intro e
   exact h0 (by rw [e])
  simp only [go_sem,c_q13,List.length_map,f0,e0]
 have f0 : ((l.length : Int) != (m.length : Int)) = false:= by simp; omega
 simp only [go_sem,c_q13,List.length_map,f0]
 refine aw_loop (fun n E => ∃ k : Nat,k + n = l.length ∧ l.take k = m.take k ∧ E = mkE [(0,.sl .none 1 (l.map iI)),(1,.sl .none 1 (m.map iI)),(5,.lit (.int .i64 (k : Nat)))] []) l.length ?_ ?_
 ·exact ⟨0,by omega,rfl,rfl⟩
 ·rintro n _ ⟨k,hk,ht,rfl⟩
  have hrI:= fun x => avRow_some 1 .none (AV.lit x) rfl
  by_cases hkl : k < l.length
  ·have f1 : ((k : Int) < (l.length : Int)) = True:= eq_true (by omega)
   have hw:= wrap_succ k (by omega)
   obtain ⟨a,ha⟩ : ∃ a,l[k]? = some a:= ⟨l[k],List.getElem?_eq_getElem hkl⟩
   obtain ⟨b,hb⟩ : ∃ b,m[k]? = some b:= ⟨m[k]'(by omega),List.getElem?_eq_getElem (by omega)⟩
   cases hp : a == b
   ·have e0 : decide (l = m) = false:= by
     simp only [decide_eq_false_iff_not]
     intro e
     rw [e,hb] at ha
     injection ha with ha
     rw [ha] at hp
     simp at hp
    simp only [go_sem,List.length_map,f1,decide_true,Int.natCast_nonneg,Int.toNat_natCast,List.getElem?_map,ha,hb,Option.map_some,hrI,iI,hp,e0]
   ·have e : a = b:= by simpa using hp
    simp only [go_sem,List.length_map,f1,decide_true,Int.natCast_nonneg,Int.toNat_natCast,List.getElem?_map,ha,hb,Option.map_some,hrI,iI,hp,hw]
    exact ⟨n - 1,by omega,k + 1,by omega,by rw [List.take_add_one,List.take_add_one,ht,ha,hb,e],rfl⟩
  ·have f1 : ((k : Int) < (l.length : Int)) = False:= eq_false (by omega)
   have e0 : decide (l = m) = true:= by
    simp only [decide_eq_true_eq]
    rwa [List.take_of_length_le (by omega),List.take_of_length_le (by omega)] at ht
   simp only [go_sem,List.length_map,f1,decide_false,e0]
end Go.Proofs.YtjceingdmfogeaaDoor.VL
end

section
set_option maxHeartbeats 4000000
namespace Go.Proofs.YtjceingdmfogeaaDoor.VL
open Go.RowKit Go.Proofs
theorem bits_addr77 : ∀ l,l < 10 → bits .or .u32 (bits .or .u32 167772160 (IntKind.wrap .u32 (IntKind.wrap .u32 ((l : Nat) : Int) * 2 ^ 8))) (IntKind.wrap .u32 77) = ((addrL l 77 : Nat) : Int):= by decide +kernel
theorem C_nAddr77 (l : Nat) (hl : l < 10) : AC Tryd.prog f_q18 [avI l,.lit (.int .i64 77)] (avU (addrL l 77)):= by
 refine ac_q18 ?_ (Nat.le_add_left 2 _)
 simp only [go_sem,c_q18,avI,avU,avBin_shl 45 .u32 .u64 _ 8 (by decide) (by decide),bits_addr77 l hl]
theorem addrL_lt (l : Nat) (hl : l < 10) : addrL l 77 < 4294967296:= by unfold addrL; omega
theorem bits_addrG : ∀ l,l < 100 → ∀ n,n < 256 → (bits .or .u32 (bits .or .u32 167772160 (IntKind.wrap .u32 (IntKind.wrap .u32 ((l : Nat) : Int) * 2 ^ 8))) (IntKind.wrap .u32 ((n : Nat) : Int)) == ((addrL l n : Nat) : Int)) = true:= by decide +kernel
theorem C_nAddrG (l n : Nat) (hl : l < 100) (hn : n < 256) : AC Tryd.prog f_q18 [avI l,avI n] (avU (addrL l n)):= by
 refine ac_q18 ?_ (Nat.le_add_left 2 _)
 simp only [go_sem,c_q18,avI,avU,avBin_shl 45 .u32 .u64 _ 8 (by decide) (by decide),eq_of_beq (bits_addrG l hl n hn)]
end Go.Proofs.YtjceingdmfogeaaDoor.VL
end

section
set_option maxHeartbeats 4000000
namespace Go.Proofs.YtjceingdmfogeaaDoor.VL
open Go.RowKit Go.Proofs
theorem avUn_neg (n : Int) : avUn .neg (.lit (.int .i64 n)) = some (.lit (.int .i64 (IntKind.i64.wrap (-n)))):= by
 simp [avUn,Op.unary,Op.intArith,p0,Pure.pure]
theorem C_TopoLines (a : Int) (ha : -9223372036854775808 ≤ a ∧ a < 9223372036854775808) : AC Tryd.prog f_q1 [.lit (.int .i64 a)] (.lit (.bool true)):= by
 refine ac_q1 ?_ (Nat.le_add_left 1 _)
 simp only [go_sem,c_q1]
 refine callX_of C_first8 ?_
 simp only [go_sem]
 refine condX_cut (fun E' => ∃ (m : Nat) (x : AV),m < 9223372036854775808 ∧ E' = mkE [(0,.lit (.int .i64 (m : Nat))),(19,x)] []) ?_ ?_
 ·by_cases h0 : a < 0
  ·have f1 : (a < 0) = True:= eq_true h0
   have w1 : IntKind.i64.wrap (a + 1) = a + 1:= by rw [IntKind.wrap_i64]; omega
   have w2 : IntKind.i64.wrap (-(a + 1)) = ((-(a + 1)).toNat : Int):= by rw [IntKind.wrap_i64]; omega
   simp only [go_sem,f1,decide_true,w1,w2,avUn_neg]
   exact ⟨(-(a + 1)).toNat,.dead,by omega,mkE_ext [] fun k => by simp only [getA,ite_self]⟩
  ·have f1 : (a < 0) = False:= eq_false h0
   simp only [go_sem,f1,decide_false]
   exact ⟨a.toNat,_,by omega,by rw [show ((a.toNat : Nat) : Int) = a by omega]⟩
 ·rintro _ ⟨m,_,hm,rfl⟩
  have t1 : (m : Int).tmod 8 = ((m % 8 : Nat) : Int):= by rw [Int.tmod_eq_emod_of_nonneg (by omega)]; omega
  obtain ⟨n,hn,hn8⟩ : ∃ n : Nat,m % 8 = n ∧ n < 8:= ⟨m % 8,rfl,by omega⟩
  rw [hn] at t1
  have w1:= wrap_succ n (by omega)
  have hLn:= C_Line (n + 1) 0 (by omega) (by omega) (by decide)
  have hv:= ln_v8 n hn8
  have hok:= ln_ok8 n hn8
  have hf:= vfit hv
  have hN:= C_New (lineW (n + 1) 0) hok hf hv
  simp only [avI] at hLn
  simp only [netV] at hLn hN
  have e8 : ((8 : Int) == 0) = false:= rfl
  have hlo:= ln_of n hn8
  have hon:= ln_on n hn8
  obtain ⟨hat,hat0⟩:= ln_atB n hn8
  have hpl : (lineW (n + 1) 0).pts.length = 2 * (n + 1):= prts_len (n + 1)
  have hnet : ∀ w : NW,netV w = [.sl .none 2 (w.rts.map avRouter),.sl .none 3 (w.lks.map avLink),.sl .none 3 (w.pts.map avPort),.sl .none 5 (w.ros.map avRoute),.sl .none 3 (w.rgs.map avRange),.sl .none 3 (w.scs.map avSource),.sl .none 4 (w.mbs.map avMb)]:= fun _ => rfl
  simp only [go_sem,e8,t1,w1]
  refine callX_of hLn ?_
  simp only [go_sem]
  refine callX_of hN ?_
  simp only [go_sem]
  unfold atB8 at hat
  generalize lineW (n + 1) 0 = w at *
  refine aw_loop (fun m E => ∃ i : Nat,i + m = n + 1 ∧ E = mkE [(0,.lit (.int .i64 ((n + 1 : Nat) : Int))),(4,.lp 4 0),(5,.rp (topoV w)),(7,.lit (.int .i64 (i : Nat)))] [(4,netV w)]) (n + 1) ?_ ?_
  ·exact ⟨0,by omega,rfl⟩
  ·rintro m _ ⟨i,him,rfl⟩
   by_cases hi : i < n + 1
   ·have f1 : ((i : Int) < ((n + 1 : Nat) : Int)) = True:= eq_true (by omega)
    obtain ⟨h1,h2⟩:= hlo i hi
    have hO:= C_OfT w hf (i : Int)
    rw [h1] at hO
    have hT:= C_Others w hf hv ((2 * i : Nat) : Int)
    have hS:= C_SameInts [((2 * i : Nat) : Int),((2 * i + 1 : Nat) : Int)] [((2 * i : Nat) : Int),((2 * i + 1 : Nat) : Int)] (by simp)
    simp only [decide_true,iI,List.map_cons,List.map_nil] at hS
    simp only [List.map_cons,List.map_nil,avI] at hO
    have w2 : IntKind.i64.wrap (2 * (i : Int)) = ((2 * i : Nat) : Int):= wrap_nat (2 * i) (by omega)
    have w3:= wrap_succ (2 * i) (by omega)
    have w4:= wrap_succ i (by omega)
    have mn : (if (1 : Int) < (i : Int) then (1 : Int) else (i : Int)) = ((min i 1 : Nat) : Int):= by split <;> omega
    simp only [go_sem,f1,decide_true]
    refine callX_of hO ?_
    simp only [go_sem,w2,w3]
    refine callX_of hS ?_
    simp only [go_sem,w2,w3]
    refine callX_of hT ?_
    have e0 : (((min i 1 : Nat) : Int) != ((min i 1 : Nat) : Int)) = false:= by simp
    simp only [go_sem,w4,List.length_map,h2,avMm_min',mn,e0]
    exact ⟨m - 1,by omega,i + 1,by omega,rfl⟩
   ·have f1 : ((i : Int) < ((n + 1 : Nat) : Int)) = False:= eq_false (by omega)
    simp only [go_sem,f1,decide_false]
    refine aw_loop (fun m E => ∃ i : Nat,i + m = n + 2 ∧ E = mkE [(0,.lit (.int .i64 ((n + 1 : Nat) : Int))),(4,.lp 4 0),(5,.rp (topoV w)),(8,.lit (.int .i64 (i : Nat)))] [(4,netV w)]) (n + 2) ?_ ?_
    ·exact ⟨0,by omega,rfl⟩
    ·rintro m _ ⟨i,him,rfl⟩
     by_cases hi : i < n + 2
     ·have f1 : ((i : Int) ≤ ((n + 1 : Nat) : Int)) = True:= eq_true (by omega)
      have hO:= C_On w hf (i : Int)
      have h1:= hon i hi
      have w4:= wrap_succ i (by omega)
      by_cases h0 : i = 0
      ·subst h0
       rw [if_pos (.inl rfl)] at h1
       have k0 : (((0 : Nat) : Int) == 0) = true:= rfl
       have k1 : (((1 : Nat) : Int) != 1) = false:= rfl
       simp only [go_sem,f1,decide_true,k0]
       refine callX_of hO ?_
       simp only [go_sem,List.length_map,h1,k1,w4]
       exact ⟨m - 1,by omega,0 + 1,by omega,rfl⟩
      ·have k0 : ((i : Int) == 0) = false:= by simp; omega
       by_cases h2 : i = n + 1
       ·rw [if_pos (.inr h2)] at h1
        have k2 : ((i : Int) == ((n + 1 : Nat) : Int)) = true:= by simp; omega
        have k1 : (((1 : Nat) : Int) != 1) = false:= rfl
        simp only [go_sem,f1,decide_true,k0,k2]
        refine callX_of hO ?_
        simp only [go_sem,List.length_map,h1,k1,w4]
        exact ⟨m - 1,by omega,i + 1,by omega,rfl⟩
       ·rw [if_neg (by omega)] at h1
        have k2 : ((i : Int) == ((n + 1 : Nat) : Int)) = false:= by simp; omega
        have k1 : (((2 : Nat) : Int) != 2) = false:= rfl
        simp only [go_sem,f1,decide_true,k0,k2]
        refine callX_of hO ?_
        simp only [go_sem,List.length_map,h1,k1,w4]
        exact ⟨m - 1,by omega,i + 1,by omega,rfl⟩
     ·have f1 : ((i : Int) ≤ ((n + 1 : Nat) : Int)) = False:= eq_false (by omega)
      simp only [go_sem,f1,decide_false]
      refine aw_loop (fun m E => ∃ i : Nat,i + m = 2 * (n + 1) ∧ E = mkE [(4,.lp 4 0),(5,.rp (topoV w)),(10,.lit (.int .i64 (i : Nat)))] [(4,netV w)]) (2 * (n + 1)) ?_ ?_
      ·exact ⟨0,by omega,rfl⟩
      ·rintro m _ ⟨i,him,rfl⟩
       by_cases hi : i < 2 * (n + 1)
       ·have f1 : ((i : Int) < ((2 * (n + 1) : Nat) : Int)) = True:= eq_true (by omega)
        have h1:= hat i hi
        obtain ⟨p,hp⟩ : ∃ p,w.pts[i]? = some p:= ⟨w.pts[i]'(by omega),List.getElem?_eq_getElem (by omega)⟩
        rw [hp] at h1
        simp only [Bool.and_eq_true,decide_eq_true_eq] at h1
        have hA:= C_At w p.a
        rw [h1.1] at hA
        simp only [avI,avU,Option.getD_some,Option.isSome_some] at hA
        have w4:= wrap_succ i (by omega)
        have hrI:= fun cs => avRow_some 3 .none (AV.agg cs) rfl
        have k1 : ((i : Int) != (i : Int)) = false:= by simp
        simp only [go_sem,hnet,List.length_map,hpl,f1,decide_true,List.getElem?_map,hp,Option.map_some,Int.natCast_nonneg,Int.toNat_natCast,avPort,avU,hrI]
        refine callX_of hA ?_
        simp only [go_sem,k1,w4]
        exact ⟨m - 1,by omega,i + 1,by omega,rfl⟩
       ·have f1 : ((i : Int) < ((2 * (n + 1) : Nat) : Int)) = False:= eq_false (by omega)
        have hA:= C_At w (addrL 99 1)
        rw [hat0] at hA
        simp only [avI,avU,Option.getD_none,Option.isSome_none] at hA
        have hG:= C_nAddrG 99 1 (by decide) (by decide)
        simp only [avI,avU] at hG
        simp only [go_sem,hnet,List.length_map,hpl,f1,decide_false]
        refine callX_of hG ?_
        simp only [go_sem]
        refine callX_of hA ?_
        simp only [go_sem]
end Go.Proofs.YtjceingdmfogeaaDoor.VL
end

section
set_option maxHeartbeats 4000000
namespace Go.Proofs.YtjceingdmfogeaaDoor.VL
open Go.RowKit Go.Proofs
theorem of_mem {w : NW} {r : Int} {p : Nat} (h : p ∈ ofW w r) : p < w.pts.length:= by
 simp only [ofW,atF] at h
 split at h
 ·exact (mem_idx.1 h).1
 ·cases h
theorem ofW_len (w : NW) (r : Int) : (ofW w r).length ≤ w.pts.length:= by
 simp only [ofW,atF]
 split
 ·exact idxK_len _ _
 ·exact Nat.zero_le _
theorem pfx_of {w : NW} (hv : vNet w = none) {p : Nat} {x : NPt} (hx : w.pts[p]? = some x) : ∃ (k : Nat) (y : NLk),x.lk = (k : Int) ∧ w.lks[k]? = some y ∧ pfxW w p = y:= by
 obtain ⟨k,hk,hkl⟩:= (portOK hv hx).lk
 have hy : w.lks[k]? = some w.lks[k]:= List.getElem?_eq_getElem hkl
 exact ⟨k,_,hk,hy,by simp [pfxW,hx,hk,hy]⟩
def con0 (c : Int) : Int:= if 0 > c then 0 else c
theorem C_Connected (w : NW) (h : w.OK) (hf : w.Fit) (hv : vNet w = none) (r : Int) (a : Nat) (ha : a < 4294967296) :
  AC Tryd.prog f_q22 [.rp (topoV w),.lit (.int .i64 r),avU a] (.tup [.lit (.int .i64 (con0 (conW w r a))),.lit (.bool (decide (0 ≤ conW w r a)))]):= by
 refine ac_q22 ?_ (Nat.le_add_left 3 _)
 simp only [go_sem,c_q22,avU]
 refine callX_of (C_Raw w) ?_
 simp only [go_sem]
 refine callX_of (C_OfT w hf r) ?_
 have hm:= fun p (hp : p ∈ ofW w r) => of_mem hp
 have hlen:= ofW_len w r
 have h3:= hf.l3
 simp only [go_sem,List.length_map]
 unfold conW
 generalize ofW w r = L at *
 refine aw_loop (fun m E => ∃ i : Nat,i + m = L.length ∧ E = mkE [(2,avU a),(8,.rp (netV w)),(9,.lit (.int .i64 (conS w a L i).1)),(10,.lit (.int .i64 (conS w a L i).2)),(18,.sl .none 1 (L.map avI)),(19,.lit (.int .i64 (L.length : Nat))),(20,.lit (.int .i64 (i : Nat)))] []) L.length ?_ ?_
 ·exact ⟨0,by omega,rfl⟩
 ·rintro m _ ⟨i,him,rfl⟩
  have hrI:= fun x => avRow_some 1 .none (AV.lit x) rfl
  by_cases hil : i < L.length
  ·have f1 : ((i : Int) < (L.length : Int)) = True:= eq_true (by omega)
   have hw:= wrap_succ i (by omega)
   obtain ⟨p,hp⟩ : ∃ p,L[i]? = some p:= ⟨L[i],List.getElem?_eq_getElem hil⟩
   have hpl:= hm p (List.mem_of_getElem? hp)
   obtain ⟨x,hx⟩ : ∃ x,w.pts[p]? = some x:= ⟨w.pts[p],List.getElem?_eq_getElem hpl⟩
   obtain ⟨k,y,hk,hy,hpf⟩:= pfx_of hv hx
   have hs:= conS_succ (w:= w) (a:= a) hp
   rw [conStep,hpf] at hs
   have hI:= C_In y.a y.b a (h.lka y (List.mem_of_getElem? hy)) ha
   generalize conS w a L i = S at *
   simp only [avPfx,avU] at hI
   simp only [go_sem,avI,avU,f1,netV,decide_true,Int.natCast_nonneg,Int.toNat_natCast,List.getElem?_map,hp,hx,hk,hy,hrI,Option.map_some,rowAgg,avPort,avLink,avStr]
   refine callX_of hI ?_
   cases hin : inN y.a y.b a
   ·rw [hin] at hs
    simp only [go_sem,hw]
    exact ⟨m - 1,by omega,i + 1,by omega,by rw [hs]; rfl⟩
   ·rw [hin] at hs
    by_cases hlt : S.2 < y.b
    ·have g1 : (S.2 < y.b) = True:= eq_true hlt
     have g2 : (y.b > S.2) = True:= eq_true hlt
     simp only [g1,decide_true,Bool.and_self,if_true] at hs
     simp only [go_sem,g1,g2,decide_true,hw]
     exact ⟨m - 1,by omega,i + 1,by omega,by rw [hs]⟩
    ·have g1 : (S.2 < y.b) = False:= eq_false hlt
     have g2 : (y.b > S.2) = False:= eq_false hlt
     simp only [g1,decide_false,Bool.and_false,Bool.false_eq_true,if_false] at hs
     simp only [go_sem,g1,g2,decide_false,hw]
     exact ⟨m - 1,by omega,i + 1,by omega,by rw [hs]⟩
  ·have f1 : ((i : Int) < (L.length : Int)) = False:= eq_false (by omega)
   have e : i = L.length:= by omega
   subst e
   simp only [go_sem,f1,decide_false,avMm_max,con0]
theorem kill_rowO (n : Nat) (t : List Nat) (e : Nat) (l : List AV) : kill n (rowO t e l) = rowO t e l:= by
 unfold rowO
 split <;> rfl
theorem C_Routes (w : NW) (h : w.OK) (hf : w.Fit) (hv : vNet w = none) (r : Int) (a : Nat) (ha : a < 4294967296) :
  AC Tryd.prog f_q21 [.rp (topoV w),.lit (.int .i64 r),avU a] (.sl .none 1 ((rouW w r a).map avI)):= by
 have h4:= hf.l4
 refine ac_q21 ?_ (Nat.le_add_left 3 _)
 simp only [go_sem,c_q21,avU]
 refine callX_of (C_Raw w) ?_
 simp only [go_sem,netV,List.length_map]
 refine aw_loop (fun m E => ∃ i t : Nat,i + m = w.ros.length ∧ (t = 55 ∨ t = 25) ∧ E = mkE [(1,.lit (.int .i64 r)),(2,avU a),(7,.lit (.int .i64 (rouS w r a i).1)),(8,rowO [t] 1 ((rouS w r a i).2.map avI)),(15,.sl .none 5 (w.ros.map avRoute)),(16,.lit (.int .i64 (w.ros.length : Nat))),(17,.lit (.int .i64 (i : Nat)))] []) w.ros.length ?_ ?_
 ·exact ⟨0,55,by omega,.inl rfl,rfl⟩
 ·rintro m _ ⟨i,t,him,ht,rfl⟩
  have hrI:= fun x => avRow_some 1 .none (AV.lit x) rfl
  by_cases hil : i < w.ros.length
  ·have f1 : ((i : Int) < (w.ros.length : Int)) = True:= eq_true (by omega)
   have hw:= wrap_succ i (by omega)
   obtain ⟨x,hx⟩ : ∃ x,w.ros[i]? = some x:= ⟨w.ros[i],List.getElem?_eq_getElem hil⟩
   have hs:= rouS_succ w r a i
   rw [rouStep,hx] at hs
   simp only at hs
   have hI:= C_In x.a x.b a (h.roa x (List.mem_of_getElem? hx)) ha
   have hl:= (rouS_ok w r a i (by omega)).2
   generalize rouS w r a i = S at *
   simp only [avPfx,avU] at hI
   have same : ∀ (E : Env),(rouS w r a (i + 1)) = S → E = mkE [(1,.lit (.int .i64 r)),(2,avU a),(7,.lit (.int .i64 S.1)),(8,rowO [t] 1 (S.2.map avI)),(15,.sl .none 5 (w.ros.map avRoute)),(16,.lit (.int .i64 (w.ros.length : Nat))),(17,.lit (.int .i64 (i + 1 : Nat)))] [] → ∃ k,k < m ∧ ∃ i t : Nat,i + k = w.ros.length ∧ (t = 55 ∨ t = 25) ∧ E = mkE [(1,.lit (.int .i64 r)),(2,avU a),(7,.lit (.int .i64 (rouS w r a i).1)),(8,rowO [t] 1 ((rouS w r a i).2.map avI)),(15,.sl .none 5 (w.ros.map avRoute)),(16,.lit (.int .i64 (w.ros.length : Nat))),(17,.lit (.int .i64 (i : Nat)))] []:= by
    rintro E e1 rfl
    exact ⟨m - 1,by omega,i + 1,t,by omega,ht,by rw [e1]⟩
   have hk8 : ∀ n,kill n (rowO [t] 1 (S.2.map avI)) = rowO [t] 1 (S.2.map avI):= fun n => kill_rowO n _ _ _
   generalize hR : rowO [t] 1 (S.2.map avI) = R8 at same hk8
   cases hr : x.rt == r
   ·have hn : (x.rt != r) = true:= by rw [bne,hr]; rfl
    rw [hr] at hs
    simp only [Bool.not_false,Bool.true_or,if_true] at hs
    simp only [go_sem,hR,hk8,avU,f1,decide_true,Int.natCast_nonneg,Int.toNat_natCast,List.getElem?_map,hx,Option.map_some,rowAgg,avRoute,hn,hw]
    exact same _ hs rfl
   ·have hn : (x.rt != r) = false:= by rw [bne,hr]; rfl
    rw [hr] at hs
    by_cases hb : x.b < S.1
    ·have g1 : (x.b < S.1) = True:= eq_true hb
     simp only [g1,decide_true,Bool.not_true,Bool.true_or,Bool.or_true,if_true] at hs
     simp only [go_sem,hR,hk8,avU,f1,decide_true,Int.natCast_nonneg,Int.toNat_natCast,List.getElem?_map,hx,Option.map_some,rowAgg,avRoute,hn,g1,hw]
     exact same _ hs rfl
    ·have g1 : (x.b < S.1) = False:= eq_false hb
     simp only [go_sem,hR,hk8,avU,f1,decide_true,decide_false,Int.natCast_nonneg,Int.toNat_natCast,List.getElem?_map,hx,Option.map_some,rowAgg,avRoute,hn,g1]
     refine callX_of hI ?_
     cases hin : inN x.a x.b a
     ·rw [hin] at hs
      simp only [Bool.not_false,Bool.or_true,if_true] at hs
      simp only [go_sem,hk8,hw]
      exact same _ hs rfl
     ·rw [hin] at hs
      simp only [g1,decide_false,Bool.not_true,Bool.or_false,Bool.false_eq_true,if_false] at hs
      by_cases hlt : S.1 < x.b
      ·have g2 : (S.1 < x.b) = True:= eq_true hlt
       have g3 : (x.b > S.1) = True:= eq_true hlt
       rw [if_pos hlt] at hs
       simp only [go_sem,g2,g3,decide_true,hw]
       exact ⟨m - 1,by omega,i + 1,55,by omega,.inl rfl,by rw [hs]; rfl⟩
      ·have g2 : (S.1 < x.b) = False:= eq_false hlt
       have g3 : (x.b > S.1) = False:= eq_false hlt
       rw [if_neg hlt] at hs
       have e2 : (rouS w r a (i + 1)).2.map avI = S.2.map avI ++ [.lit (.int .i64 (i : Nat))]:= by rw [hs]; simp only [List.map_append]; rfl
       have e3 : (rouS w r a (i + 1)).1 = S.1:= by rw [hs]
       have hRl : (S.2.map avI).length ≤ 4294967295:= by rw [List.length_map]; omega
       subst hR
       generalize S.2.map avI = R at *
       cases R with
       | nil =>
        have ea : ∀ s c,avApp 1 8 [] 25 s c (.sl .nil 0 []) (.sl (.own [24]) 1 [.lit (.int .i64 (i : Nat))]) = _:= fun s c => avApp_nil (d:= 25) (s:= s) (c:= c) 1 8 0 [] [] [.lit (.int .i64 (i : Nat))] (.own [24]) (by simp) (by decide)
        simp only [go_sem,rowO_nil,g2,g3,decide_false,ea,hw]
        exact ⟨m - 1,by omega,i + 1,25,by omega,.inr rfl,by rw [e2,e3]; rfl⟩
       | cons z zs =>
        rcases ht with rfl | rfl
        ·have ea : ∀ s c,avApp 1 8 [] 25 s c (.sl (.own [55]) 1 (z :: zs)) (.sl (.own [24]) 1 [.lit (.int .i64 (i : Nat))]) = _:= fun s c => avApp_own (d:= 25) (s:= s) (c:= c) 1 8 [] [55] (z :: zs) [.lit (.int .i64 (i : Nat))] (.own [24]) (by simp at hRl ⊢; omega) (by decide) rfl
         simp only [go_sem,rowO_cons,g2,g3,decide_false,ea,hw]
         exact ⟨m - 1,by omega,i + 1,25,by omega,.inr rfl,by rw [e2,e3]; rfl⟩
        ·have ea : ∀ s c,avApp 1 8 [] 25 s c (.sl (.own [25]) 1 (z :: zs)) (.sl (.own [24]) 1 [.lit (.int .i64 (i : Nat))]) = _:= fun s c => avApp_own (d:= 25) (s:= s) (c:= c) 1 8 [] [25] (z :: zs) [.lit (.int .i64 (i : Nat))] (.own [24]) (by simp at hRl ⊢; omega) (by decide) rfl
         simp only [go_sem,rowO_cons,g2,g3,decide_false,ea,hw]
         exact ⟨m - 1,by omega,i + 1,25,by omega,.inr rfl,by rw [e2,e3]; rfl⟩
  ·have f1 : ((i : Int) < (w.ros.length : Int)) = False:= eq_false (by omega)
   have e : i = w.ros.length:= by omega
   subst e
   simp only [go_sem,f1,decide_false]
   refine shiftX_of (VS.tell (p:= .slot 8) (y:= .sl .none 1 ((rouW w r a).map avI)) rfl (wk_rowO _ _ _)) ?_
   rintro _ rfl
   rw [set_slot]
   simp only [go_sem]
end Go.Proofs.YtjceingdmfogeaaDoor.VL
end

section
set_option maxHeartbeats 4000000
namespace Go.Proofs.YtjceingdmfogeaaDoor.VL
open Go.RowKit Go.Proofs
def wayV (q : Nat × Nat × Int) : AV:= .agg [avI q.1,avU q.2.1,.lit (.int .i64 q.2.2)]
def way0 : AV:= .agg [.lit (.int .i64 0),.lit (.int .u32 0),.lit (.int .i64 0)]
def lookV : Option (Nat × Nat × Int) → AV
 | some q => .tup [wayV q,.lit (.bool true)]
 | none => .tup [way0,.lit (.bool false)]
theorem resOK_look (q : Option (Nat × Nat × Int)) : resOK (lookV q) = true:= by cases q <;> rfl
theorem bestR_snoc (w : NW) (j : Nat) : ∀ (l : List Nat) (b : Nat),bestR w (l ++ [j]) b = bestStep w (bestR w l b) j
 | [],b => rfl
 | i :: l,b => by
  simp only [List.cons_append,bestR]
  exact bestR_snoc w j l _
def roC (x : NRo) : List AV:= [.lit (.int .i64 x.rt),avU x.a,.lit (.int .i64 x.b),avU x.via,.lit (.int .i64 x.cost)]
theorem roAt_of {w : NW} {i : Nat} {x : NRo} (hx : w.ros[i]? = some x) : roAt w i = x:= by simp [roAt,hx]
theorem tailSl (i : Nat) (l : List Nat) : avSl 1 .none 1 ((i :: l).map avI) (some 1) (some ((((i :: l).map avI).length : Nat) : Int)) = some (.sl .none 1 (l.map avI)):= by
 rw [avSl_some 1 .none _ _ _ rfl (by simp; omega),Int.toNat_natCast,List.take_length]
 rfl
def atB (w : NW) (c : Int) (R : List Nat) : Bool:= decide (0 ≤ c) && match R with
 | [] => true
 | i :: _ => decide ((roAt w i).b ≤ (pfxW w c.toNat).b)
theorem atB_eq (w : NW) (r : Int) (a : Nat) : atW w r a = atB w (conW w r a) (rouW w r a):= rfl
theorem lookN_at {w : NW} {r : Int} {n a : Nat} (h : atW w r a = true) : lookN w r n a = some ((conW w r a).toNat,0,0):= by
 rw [lookN.eq_def]
 simp only
 rw [if_pos h]
theorem lookN_nil {w : NW} {r : Int} {n a : Nat} (h : atW w r a = false) (hr : rouW w r a = []) : lookN w r n a = none:= by
 rw [lookN.eq_def]
 simp only
 rw [if_neg (by rw [h]; simp),hr]
theorem lookN_zero {w : NW} {r : Int} {a i : Nat} {l : List Nat} (h : atW w r a = false) (hr : rouW w r a = i :: l) : lookN w r 0 a = none:= by
 rw [lookN.eq_def]
 simp only
 rw [if_neg (by rw [h]; simp),hr]
theorem lookN_succ {w : NW} {r : Int} {n a i : Nat} {l : List Nat} (h : atW w r a = false) (hr : rouW w r a = i :: l) : lookN w r (n + 1) a = match lookN w r n (roAt w (bestR w l i)).via with
  | none => none
  | some (p,v,c) => some (p,if v = 0 then (roAt w (bestR w l i)).via else v,if c + (roAt w (bestR w l i)).cost ≤ 65535 then c + (roAt w (bestR w l i)).cost else 65535):= by
 rw [lookN.eq_def]
 simp only
 rw [if_neg (by rw [h]; simp),hr]
 all_goals rfl
theorem C_look1 (w : NW) (h : w.OK) (hf : w.Fit) (hv : vNet w = none) (r : Int) (n : Nat) (hn : n ≤ 6)
  (rec : ∀ m,n = m + 1 → ∀ a,a < 4294967296 → AC Tryd.prog f_q37 [.rp (topoV w),.lit (.int .i64 r),avU a,.lit (.int .i64 (6 - (m : Int)))] (lookV (lookN w r m a)))
  (a : Nat) (ha : a < 4294967296) : AC Tryd.prog f_q37 [.rp (topoV w),.lit (.int .i64 r),avU a,.lit (.int .i64 (6 - (n : Int)))] (lookV (lookN w r n a)):= by
 have hrI:= fun x => avRow_some 1 .none (AV.lit x) rfl
 have hR1 : ∀ i,i ∈ rouW w r a → ∃ x,w.ros[i]? = some x:= fun i => rouW_mem
 have hRl:= rouW_len w r a
 have h4:= hf.l4
 have hcon : 0 ≤ conW w r a → ∃ p : Nat,conW w r a = (p : Int) ∧ p < w.pts.length:= by
  intro h0
  rcases conS_ok w a (ofW w r) _ (Nat.le_refl _) with h2 | ⟨q,hq,h2,_⟩
  ·simp only [conW,h2] at h0; omega
  ·exact ⟨q,by simp only [conW,h2],of_mem hq⟩
 have hRo:= C_Routes w h hf hv r a ha
 have hCo:= C_Connected w h hf hv r a ha
 have hbest : ∀ i l,rouW w r a = i :: l → RouteOK w (roAt w (bestR w l i)):= fun i l e => best_ok hv e
 have hat:= atB_eq w r a
 generalize hcE : conW w r a = c at *
 generalize hRE : rouW w r a = R at *
 simp only [avU] at hRo hCo
 refine ac_q37 ?_ (Nat.le_add_left 4 _) (resOK_look _)
 simp only [go_sem,c_q37,avU]
 refine callX_of (C_Raw w) ?_
 simp only [go_sem]
 refine callX_of hRo ?_
 simp only [go_sem]
 refine callX_of hCo ?_
 have k00 : (((0 : Nat) : Int) == 0) = true:= rfl
 have z1 : ∀ p : Nat,con0 (p : Int) = (p : Int):= fun p => if_neg (by omega)
 have hd6 : ((6 - (n : Int)) == 6) = decide (n = 0):= by
  rw [Bool.eq_iff_iff]
  simp only [beq_iff_eq,decide_eq_true_eq]
  omega
 cases R with
 | nil =>
  by_cases h0 : 0 ≤ c
  ·obtain ⟨p,rfl,hpl⟩:= hcon h0
   have g0 : (0 ≤ (p : Int)) = True:= eq_true h0
   rw [lookN_at (by rw [hat]; simp [atB]),hcE]
   simp only [go_sem,g0,z1,k00,decide_true,List.length_nil,Int.toNat_natCast,lookV,wayV,avI,avU,Int.natCast_zero]
  ·have g0 : (0 ≤ c) = False:= eq_false h0
   rw [lookN_nil (by rw [hat]; simp [atB,h0]) hRE]
   simp only [go_sem,g0,k00,decide_false,List.length_nil,lookV,way0]
 | cons i l =>
  obtain ⟨x,hx⟩:= hR1 i (by simp)
  have hxi:= roAt_of hx
  have hb:= hbest i l rfl
  have kl : (((l.length + 1 : Nat) : Int) == 0) = false:= by simp; omega
  simp only [atB,hxi] at hat
  have hvia : ∀ b,b = bestR w l i → (roAt w b).via < 4294967296:= by
   rintro b rfl
   have hm : bestR w l i ∈ i :: l:= by
    rcases bestR_mem w l i with h | h
    ·rw [h]; simp
    ·simp [h]
   obtain ⟨x3,hx3⟩:= hR1 _ hm
   rw [roAt_of hx3]
   exact h.rov x3 (List.mem_of_getElem? hx3)
  have h3 : (∃ (p : Nat) (x2 : NPt) (k2 : Nat) (y2 : NLk),c = (p : Int) ∧ w.pts[p]? = some x2 ∧ x2.lk = (k2 : Int) ∧ w.lks[k2]? = some y2 ∧ pfxW w p = y2 ∧ x.b ≤ y2.b) ∨
    (∃ (p : Nat) (x2 : NPt) (k2 : Nat) (y2 : NLk),c = (p : Int) ∧ w.pts[p]? = some x2 ∧ x2.lk = (k2 : Int) ∧ w.lks[k2]? = some y2 ∧ pfxW w p = y2 ∧ ¬ x.b ≤ y2.b) ∨ ¬ 0 ≤ c:= by
   by_cases h0 : 0 ≤ c
   ·obtain ⟨p,rfl,hpl⟩:= hcon h0
    obtain ⟨x2,hx2⟩ : ∃ y,w.pts[p]? = some y:= ⟨w.pts[p],List.getElem?_eq_getElem hpl⟩
    obtain ⟨k2,y2,hk2,hy2,hpf⟩:= pfx_of hv hx2
    by_cases hge : x.b ≤ y2.b
    ·exact .inl ⟨p,x2,k2,y2,rfl,hx2,hk2,hy2,hpf,hge⟩
    ·exact .inr (.inl ⟨p,x2,k2,y2,rfl,hx2,hk2,hy2,hpf,hge⟩)
   ·exact .inr (.inr h0)
  rcases h3 with ⟨p,x2,k2,y2,rfl,hx2,hk2,hy2,hpf,hge⟩ | ⟨p,x2,k2,y2,rfl,hx2,hk2,hy2,hpf,hge⟩ | h0
  ·have g0 : (0 ≤ (p : Int)) = True:= eq_true (by omega)
   rw [Int.toNat_natCast,hpf] at hat
   have g1 : (x.b ≤ y2.b) = True:= eq_true hge
   have g2 : (y2.b ≥ x.b) = True:= eq_true hge
   rw [lookN_at (by rw [hat]; simp [hge]),hcE]
   simp only [go_sem,g0,z1,kl,g1,g2,decide_true,netV,Int.natCast_nonneg,Int.toNat_natCast,Int.toNat_zero,Int.le_refl,List.length_cons,List.length_map,List.getElem?_map,List.getElem?_cons_zero,hx,hx2,hk2,hy2,hrI,Option.map_some,rowAgg,avPort,avLink,avRoute,avStr,avU,avI,lookV,wayV,Int.natCast_zero]
  have g0 : (0 ≤ (p : Int)) = True:= eq_true (by omega)
  rw [Int.toNat_natCast,hpf] at hat
  have g1 : (x.b ≤ y2.b) = False:= eq_false hge
  have hat0 : atW w r a = false:= by rw [hat]; simp [hge]
  have g2 : (y2.b ≥ x.b) = False:= eq_false hge
  simp only [go_sem,g0,z1,kl,hd6,g1,g2,decide_true,decide_false,netV,Int.natCast_nonneg,Int.toNat_natCast,Int.toNat_zero,Int.le_refl,List.length_cons,List.length_map,List.getElem?_map,List.getElem?_cons_zero,hx,hx2,hk2,hy2,hrI,Option.map_some,rowAgg,avPort,avLink,avRoute,avStr,avU,avI]
  rotate_left
  have g0 : (0 ≤ c) = False:= eq_false h0
  have hat0 : atW w r a = false:= by rw [hat]; simp [h0]
  simp only [go_sem,g0,kl,hd6,decide_false,List.length_cons,List.length_map]
  rotate_left
  all_goals
   rcases n with _ | n
   ·rw [lookN_zero hat0 hRE]
    simp only [go_sem,lookV,way0]
   rw [lookN_succ hat0 hRE]
   have hn0 : (n + 1 = 0) = False:= eq_false (by omega)
   have hts:= tailSl i l
   simp only [List.length_map,List.length_cons,List.map_cons,avI] at hts
   simp only [go_sem,hn0,decide_false,netV,Int.natCast_nonneg,Int.toNat_natCast,Int.toNat_zero,Int.le_refl,List.length_cons,List.length_map,List.getElem?_map,List.getElem?_cons_zero,List.map_cons,hx,hrI,Option.map_some,rowAgg,avRoute,avU,avI,hts]
   refine aw_loop (fun m E => ∃ k : Nat,k + m = l.length ∧ E = mkE [(0,.rp (topoV w)),(1,.lit (.int .i64 r)),(3,.lit (.int .i64 (6 - ((n + 1 : Nat) : Int)))),(8,.lp 8 0),(10,.rp (netV w)),(14,.lp 14 0),(88,.sl .none 1 (l.map avI)),(89,.lit (.int .i64 (l.length : Nat))),(90,.lit (.int .i64 (k : Nat)))] [(8,[.lit (.int .i64 0),.lit (.int .u32 0),.lit (.int .i64 0)]),(14,roC (roAt w (bestR w (l.take k) i)))]) l.length ?_ ?_
   ·exact ⟨0,by omega,by rw [List.take_zero]; simp only [bestR,hxi]; rfl⟩
   ·rintro m _ ⟨k,hk,rfl⟩
    by_cases hkl : k < l.length
    ·have f1 : ((k : Int) < (l.length : Int)) = True:= eq_true (by omega)
     have hw:= wrap_succ k (by simp only [List.length_cons] at hRl; omega)
     obtain ⟨j,hj⟩ : ∃ j,l[k]? = some j:= ⟨l[k],List.getElem?_eq_getElem hkl⟩
     obtain ⟨xj,hxj⟩:= hR1 j (List.mem_cons_of_mem _ (List.mem_of_getElem? hj))
     have e1 : bestR w (l.take (k + 1)) i = bestStep w (bestR w (l.take k) i) j:= by
      rw [List.take_add_one,hj,Option.toList_some,bestR_snoc]
     simp only [bestStep,roAt_of hxj] at e1
     generalize bestR w (l.take k) i = b at *
     by_cases hlt : xj.cost < (roAt w b).cost
     ·have g3 : (xj.cost < (roAt w b).cost) = True:= eq_true hlt
      rw [if_pos hlt] at e1
      simp only [go_sem,f1,g3,roC,netV,decide_true,Int.natCast_nonneg,Int.toNat_natCast,List.getElem?_map,hj,hxj,hrI,Option.map_some,rowAgg,avRoute,avU,avI,hw]
      exact ⟨m - 1,by omega,k + 1,by omega,by rw [e1,roAt_of hxj]⟩
     ·have g3 : (xj.cost < (roAt w b).cost) = False:= eq_false hlt
      rw [if_neg hlt] at e1
      simp only [go_sem,f1,g3,roC,netV,decide_true,decide_false,Int.natCast_nonneg,Int.toNat_natCast,List.getElem?_map,hj,hxj,hrI,Option.map_some,rowAgg,avRoute,avU,avI,hw]
      exact ⟨m - 1,by omega,k + 1,by omega,by rw [e1]⟩
    ·have f1 : ((k : Int) < (l.length : Int)) = False:= eq_false (by omega)
     rw [List.take_of_length_le (by omega)]
     have hva:= hvia _ rfl
     generalize roAt w (bestR w l i) = x0 at *
     have hrec:= rec n rfl x0.via hva
     have hwd : IntKind.wrap .i64 (6 - ((n + 1 : Nat) : Int) + 1) = 6 - (n : Int):= by
      rw [iw _ (by omega) (by omega)]
      omega
     simp only [avU] at hrec
     simp only [go_sem,f1,roC,avU,decide_false,hwd]
     refine callX_of hrec ?_
     cases hl : lookN w r n x0.via with
     | none => simp only [go_sem,lookV,way0]
     | some q =>
      obtain ⟨p',v',c'⟩:= q
      have hcc:= lookN_cost hv r n x0.via p' v' c' hl
      have hb0:= hb.c0
      have hb1:= hb.c1
      have hwc : IntKind.wrap .i64 (c' + x0.cost) = c' + x0.cost:= iw _ (by omega) (by omega)
      have emin : (if 65535 < c' + x0.cost then (65535 : Int) else c' + x0.cost) = if c' + x0.cost ≤ 65535 then c' + x0.cost else 65535:= by
       split <;> split <;> omega
      cases hv0 : v' == 0
      ·have e0 : ¬ v' = 0:= by simpa using hv0
       have b0 : ((v' : Int) == 0) = false:= by simp; omega
       simp only [go_sem,lookV,wayV,avI,avU,b0,hwc,avMm_min',emin,if_neg e0]
      ·have e0 : v' = 0:= by simpa using hv0
       subst e0
       have b0 : (((0 : Nat) : Int) == 0) = true:= rfl
       simp only [go_sem,lookV,wayV,avI,avU,b0,hwc,avMm_min',emin,if_true]
theorem C_look (w : NW) (h : w.OK) (hf : w.Fit) (hv : vNet w = none) (r : Int) : ∀ (n a : Nat),n ≤ 6 → a < 4294967296 → AC Tryd.prog f_q37 [.rp (topoV w),.lit (.int .i64 r),avU a,.lit (.int .i64 (6 - (n : Int)))] (lookV (lookN w r n a))
 | 0,a,hn,ha => C_look1 w h hf hv r 0 hn (fun m hm => by omega) a ha
 | n + 1,a,hn,ha => C_look1 w h hf hv r (n + 1) hn (fun m hm a ha => by
  obtain rfl : n = m:= by omega
  exact C_look w h hf hv r n a (by omega) ha) a ha
theorem C_Look (w : NW) (h : w.OK) (hf : w.Fit) (hv : vNet w = none) (r : Int) (a : Nat) (ha : a < 4294967296) : AC Tryd.prog f_q20 [.rp (topoV w),.lit (.int .i64 r),avU a] (lookV (lookN w r 6 a)):= by
 refine ac_q20 ?_ (Nat.le_add_left 3 _) (resOK_look _)
 have hL:= C_look w h hf hv r 6 a (by decide) ha
 rw [show (6 - ((6 : Nat) : Int)) = 0 from rfl] at hL
 simp only [go_sem,c_q20,avU]
 refine callX_of hL ?_
 cases lookN w r 6 a with
 | none => simp only [go_sem,lookV,way0]
 | some q => simp only [go_sem,lookV,wayV,avI,avU]
end Go.Proofs.YtjceingdmfogeaaDoor.VL
end

section
set_option maxHeartbeats 4000000
namespace Go.Proofs.YtjceingdmfogeaaDoor.VL
open Go.RowKit Go.Proofs
theorem line_v20 : vNet (lineW 2 0) = none:= by decide +kernel
theorem line_ok20 : (lineW 2 0).OK:= by
 constructor <;> decide +kernel
theorem line_l20 : lookN (lineW 2 0) 0 6 (addrL 0 9) = some (0,0,0):= by decide +kernel
theorem C_first9 : AC Tryd.prog f_q19 [] (.lit (.bool true)):= by
 refine ac_q19 ?_ (Nat.zero_le _)
 have hL:= C_Look (lineW 2 0) line_ok20 (vfit line_v20) line_v20 0 (addrL 0 9) (by decide)
 rw [line_l20] at hL
 have k0 : (((0 : Nat) : Int) == 0) = true:= rfl
 have k1 : ((0 : Int) == 0) = true:= rfl
 simp only [go_sem,c_q19]
 refine callX_of (C_Line 2 0 (by decide) (by decide) (by decide)) ?_
 simp only [go_sem,low_net,one_net,len_net,take_net,Nat.le_refl]
 refine callX_of (C_New (lineW 2 0) line_ok20 (vfit line_v20) line_v20) ?_
 simp only [go_sem]
 refine callX_of (C_nAddr 0 9 (by decide) (by decide)) ?_
 simp only [go_sem]
 refine callX_of hL ?_
 simp only [go_sem,lookV,wayV,avI,avU,k0,k1]
end Go.Proofs.YtjceingdmfogeaaDoor.VL
end

section
set_option maxHeartbeats 4000000
namespace Go.Proofs.YtjceingdmfogeaaDoor.VL
open Go.RowKit Go.Proofs
theorem C_RibLines (a b c : Int) : AC Tryd.prog f_q2 [.lit (.int .i64 a),.lit (.int .i64 b),.lit (.int .i64 c)] (.lit (.bool true)):= by
 refine ac_q2 ?_ (Nat.le_add_left 3 _)
 simp only [go_sem,c_q2]
 refine callX_of C_first9 ?_
 simp only [go_sem]
 refine callX_of (C_Number a 7 (by decide) (by decide)) ?_
 obtain ⟨n,hn,hn7⟩ : ∃ n : Nat,a % 7 = (n : Int) ∧ n < 7:= ⟨(a % 7).toNat,by omega,by omega⟩
 have hw:= wrap_succ n (by omega)
 rw [hn]
 simp only [go_sem,hw]
 refine callX_of (C_Number b ((n + 1 : Nat) : Int) (by omega) (by omega)) ?_
 obtain ⟨r,hr,hrn⟩ : ∃ r : Nat,b % ((n + 1 : Nat) : Int) = (r : Int) ∧ r < n + 1:= by
  have h1:= Int.emod_nonneg b (show ((n + 1 : Nat) : Int) ≠ 0 by omega)
  have h2:= Int.emod_lt_of_pos b (show (0 : Int) < ((n + 1 : Nat) : Int) by omega)
  exact ⟨(b % ((n + 1 : Nat) : Int)).toNat,by omega,by omega⟩
 rw [hr]
 have hw2:= wrap_succ (n + 1) (by omega)
 simp only [go_sem,hw2]
 refine callX_of (C_Number c ((n + 1 + 1 : Nat) : Int) (by omega) (by omega)) ?_
 obtain ⟨k,hk,hkn⟩ : ∃ k : Nat,c % ((n + 1 + 1 : Nat) : Int) = (k : Int) ∧ k < n + 2:= by
  have h1:= Int.emod_nonneg c (show ((n + 1 + 1 : Nat) : Int) ≠ 0 by omega)
  have h2:= Int.emod_lt_of_pos c (show (0 : Int) < ((n + 1 + 1 : Nat) : Int) by omega)
  exact ⟨(c % ((n + 1 + 1 : Nat) : Int)).toNat,by omega,by omega⟩
 rw [hk]
 have hv:= ln_v8 n (by omega)
 have hok:= ln_ok8 n (by omega)
 have hf:= vfit hv
 have hLn:= C_Line (n + 1) 0 (by omega) (by omega) (by decide)
 have hL:= C_Look (lineW (n + 1) 0) hok hf hv (r : Int) (addrL k 77) (addrL_lt k (by omega))
 rw [ln_look n hn7 r hrn k hkn] at hL
 have hN:= C_New (lineW (n + 1) 0) hok hf hv
 have hA:= C_nAddr77 k (by omega)
 simp only [avI] at hLn hA
 simp only [lookV,wayV,avI,avU] at hL hA
 simp only [go_sem]
 refine callX_of hLn ?_
 simp only [go_sem,low_net,one_net,len_net,take_net,Nat.le_refl]
 refine callX_of hN ?_
 simp only [go_sem]
 refine callX_of hA ?_
 simp only [go_sem]
 refine callX_of hL ?_
 have w1 : IntKind.i64.wrap (2 * (r : Int)) = ((2 * r : Nat) : Int):= wrap_nat (2 * r) (by omega)
 have w2:= wrap_succ (2 * r) (by omega)
 have w3:= wrap_succ r (by omega)
 have w4 : IntKind.i64.wrap ((r : Int) + 2) = ((r + 2 : Nat) : Int):= wrap_nat (r + 2) (by omega)
 by_cases h1 : k < r
 ·have f1 : ((k : Int) < (r : Int)) = True:= eq_true (by omega)
  have w5 : IntKind.i64.wrap ((r : Int) - (k : Int)) = ((r - k : Nat) : Int):= by
   rw [show (r : Int) - (k : Int) = ((r - k : Nat) : Int) by omega]
   exact wrap_nat (r - k) (by omega)
  have hA2:= C_nAddr r r (by omega) (by omega)
  simp only [avI,avU] at hA2
  simp only [go_sem,f1,decide_true,w1,wayL,h1,if_true,BEq.rfl]
  refine callX_of hA2 ?_
  simp only [go_sem,w5,BEq.rfl]
 ·have f1 : ((k : Int) < (r : Int)) = False:= eq_false (by omega)
  by_cases h2 : r + 1 < k
  ·have f2 : ((k : Int) > ((r + 1 : Nat) : Int)) = True:= eq_true (by omega)
   have f3 : (((r + 1 : Nat) : Int) < (k : Int)) = True:= eq_true (by omega)
   have w5 : IntKind.i64.wrap ((k : Int) - (r : Int)) = ((k - r : Nat) : Int):= by
    rw [show (k : Int) - (r : Int) = ((k - r : Nat) : Int) by omega]
    exact wrap_nat (k - r) (by omega)
   have hA2:= C_nAddr (r + 1) (r + 2) (by omega) (by omega)
   simp only [avI,avU] at hA2
   simp only [go_sem,f1,f2,f3,decide_true,decide_false,w1,w2,w3,w4,wayL,h1,h2,if_true,if_false,BEq.rfl]
   refine callX_of hA2 ?_
   simp only [go_sem,w5,BEq.rfl]
  ·have f2 : ((k : Int) > ((r + 1 : Nat) : Int)) = False:= eq_false (by omega)
   have f3 : (((r + 1 : Nat) : Int) < (k : Int)) = False:= eq_false (by omega)
   have w5 : IntKind.i64.wrap (((2 * r : Nat) : Int) + (k : Int)) = ((2 * r + k : Nat) : Int):= by
    rw [show ((2 * r : Nat) : Int) + (k : Int) = ((2 * r + k : Nat) : Int) by omega]
    exact wrap_nat (2 * r + k) (by omega)
   have w6 : IntKind.i64.wrap (((2 * r + k : Nat) : Int) - (r : Int)) = ((2 * r + k - r : Nat) : Int):= by
    rw [show ((2 * r + k : Nat) : Int) - (r : Int) = ((2 * r + k - r : Nat) : Int) by omega]
    exact wrap_nat (2 * r + k - r) (by omega)
   have k0 : (((0 : Nat) : Int) == 0) = true:= rfl
   have k1 : ((0 : Int) == 0) = true:= rfl
   simp only [go_sem,f1,f2,f3,decide_true,decide_false,w1,w2,w3,w4,w5,w6,wayL,h1,h2,if_true,if_false,BEq.rfl,k0,k1]
end Go.Proofs.YtjceingdmfogeaaDoor.VL
end

section
set_option maxHeartbeats 4000000
namespace Go.Proofs.YtjceingdmfogeaaDoor.VL
open Go.RowKit Go.Proofs
def costed (w : NW) (f : Nat → Int) : NW:= { w with ros:= w.ros.mapIdx fun i x => { x with cost:= f i } }
theorem costed_get (w : NW) (f : Nat → Int) (i : Nat) : (costed w f).ros[i]? = (w.ros[i]?).map fun x => { x with cost:= f i }:= by
 simp [costed,List.getElem?_mapIdx]
theorem costed_len (w : NW) (f : Nat → Int) : (costed w f).ros.length = w.ros.length:= by simp [costed]
theorem costed_at (w : NW) (f : Nat → Int) (h : ∀ i x,w.ros[i]? = some x → costN (f i) = costN x.cost) : ∀ k i,vAt (costed w f) k i = vAt w k i
 | 0,i => rfl
 | 1,i => rfl
 | 2,i => rfl
 | 3,i => by
  simp only [vAt,costed_get]
  cases hx : w.ros[i]? with
  | none => rfl
  | some x =>
   have:= h i x hx
   simp only [Option.map_some,Option.bind_some,roOf,this]
   rfl
 | 4,i => rfl
 | 5,i => rfl
 | k + 6,i => rfl
theorem costed_lenN (w : NW) (f : Nat → Int) : ∀ k,lenN (costed w f) k = lenN w k
 | 0 => rfl
 | 1 => rfl
 | 2 => rfl
 | 3 => costed_len w f
 | 4 => rfl
 | 5 => rfl
 | k + 6 => rfl
theorem costed_list (w : NW) (f : Nat → Int) (h : ∀ i x,w.ros[i]? = some x → costN (f i) = costN x.cost) (k i : Nat) : vList (costed w f) k i = vList w k i:= by
 unfold vList
 rw [show vAt (costed w f) k = vAt w k from funext (costed_at w f h k),costed_lenN]
theorem costed_scan (w : NW) (f : Nat → Int) (h : ∀ i x,w.ros[i]? = some x → costN (f i) = costN x.cost) : ∀ n k,scanK (costed w f) n k = scanK w n k
 | 0,k => rfl
 | n + 1,k => by
  rw [scanK,scanK,costed_list w f h,costed_scan w f h n (k + 1)]
theorem costed_v (w : NW) (f : Nat → Int) (h : ∀ i x,w.ros[i]? = some x → costN (f i) = costN x.cost) : vNet (costed w f) = vNet w:= costed_scan w f h 7 0
theorem costed_step (w : NW) (f : Nat → Int) (r : Int) (a : Nat) : rouStep (costed w f) r a = rouStep w r a:= by
 funext s i
 unfold rouStep
 rw [costed_get]
 cases w.ros[i]? <;> rfl
theorem costed_rou (w : NW) (f : Nat → Int) (r : Int) (a : Nat) : rouW (costed w f) r a = rouW w r a:= by
 unfold rouW rouS
 rw [costed_step,costed_len]
theorem costed_ro (w : NW) (f : Nat → Int) (i : Nat) (hi : i < w.ros.length) : roAt (costed w f) i = { roAt w i with cost:= f i }:= by
 unfold roAt
 rw [costed_get,List.getElem?_eq_getElem hi]
 rfl
def deep0 (n : Nat) : NW:= ⟨rtrs0,links0,ports0,(List.range n).map fun i : Nat => ⟨0,335544320 + i * 65536,16,if i = n - 1 then 167772160 + 256 + 99 else 335544320 + (i + 1) * 65536 + 1,0⟩,[⟨3758096384,4,167772161⟩],[],[]⟩
where
 rtrs0 : List NRt:= [⟨⟨#[114,48]⟩,1⟩]
 links0 : List NLk:= [⟨⟨#[108,48]⟩,167772160,24⟩,⟨⟨#[108,49]⟩,167772416,24⟩]
 ports0 : List NPt:= [⟨0,0,167772161⟩,⟨0,1,167772417⟩]
theorem deep0_v : ∀ n,n < 10 → vNet (deep0 (n + 1)) = none:= by decide +kernel
def deepW (n : Nat) (c : Int) : NW:= costed (deep0 n) fun _ => c
def capN (c : Int) : Nat → Int
 | 0 => 0
 | k + 1 => if capN c k + c ≤ 65535 then capN c k + c else 65535
theorem capN_min {c : Int} (h0 : 0 ≤ c) (h1 : c ≤ 65535) : ∀ n : Nat,capN c n = min ((n : Int) * c) 65535
 | 0 => by simp [capN]; omega
 | n + 1 => by
  have ih:= capN_min h0 h1 n
  have e : ((n + 1 : Nat) : Int) * c = (n : Int) * c + c:= by rw [Int.natCast_add,Int.add_mul]; simp
  rw [capN,ih,e]
  generalize (n : Int) * c = x
  split <;> omega
theorem deepW_v (n : Nat) (hn : n < 10) {c : Int} (h0 : 0 ≤ c) (h1 : c ≤ 65535) : vNet (deepW (n + 1) c) = none:= by
 unfold deepW
 rw [costed_v,deep0_v n hn]
 intro i x hx
 have hx0 : x.cost = 0:= by
  simp only [deep0,List.getElem?_map,Option.map_eq_some_iff] at hx
  obtain ⟨_,_,rfl⟩:= hx
  rfl
 rw [hx0]
 simp [costN,h0,h1]
theorem deep_look (c : Int) (n : Nat) (hn : n < 10) : lookN (deepW (n + 1) c) 0 6 335544325 = if n + 1 > 6 then none else some (1,167772515,capN c (n + 1)):= by
 have : n = 0 ∨ n = 1 ∨ n = 2 ∨ n = 3 ∨ n = 4 ∨ n = 5 ∨ n = 6 ∨ n = 7 ∨ n = 8 ∨ n = 9:= by omega
 rcases this with rfl | rfl | rfl | rfl | rfl | rfl | rfl | rfl | rfl | rfl <;> (show _ = _; kernel_rfl)
end Go.Proofs.YtjceingdmfogeaaDoor.VL
end

section
set_option maxHeartbeats 4000000
namespace Go.Proofs.YtjceingdmfogeaaDoor.VL
open Go.RowKit Go.Proofs
def lsR (i : Nat) : NRo:= ⟨0,335544320,8,addrL 1 (50 + i),0⟩
def lsL : NRo:= ⟨0,335544320,9,addrL 0 70,900⟩
def least0 (m : Nat) (g : Bool) : NW:= ⟨rtrs 1,links 2,prts 1,(List.range m).map lsR ++ (if g then [lsL] else []),[⟨3758096384,4,addrL 0 1⟩],[],[]⟩
theorem least0_v : ∀ m,m < 6 → vNet (least0 (m + 1) true) = none ∧ vNet (least0 (m + 1) false) = none:= by decide +kernel
theorem least0_ok (m : Nat) (h : m < 6) (g : Bool) : (least0 (m + 1) g).OK:= by
 have : m = 0 ∨ m = 1 ∨ m = 2 ∨ m = 3 ∨ m = 4 ∨ m = 5:= by omega
 cases g <;> rcases this with rfl | rfl | rfl | rfl | rfl | rfl <;> (constructor <;> decide +kernel)
def lsF (m : Nat) (f : Nat → Int) (i : Nat) : Int:= if i < m then f i else 900
def leastW (m : Nat) (f : Nat → Int) (g : Bool) : NW:= costed (least0 m g) (lsF m f)
theorem leastW_v (m : Nat) (h : m < 6) (f : Nat → Int) (hf : ∀ i,0 ≤ f i ∧ f i ≤ 4) (g : Bool) : vNet (leastW (m + 1) f g) = none:= by
 unfold leastW
 have h0 : vNet (least0 (m + 1) g) = none:= by cases g; exact (least0_v m h).2; exact (least0_v m h).1
 rw [costed_v,h0]
 intro i x hx
 have hc : 0 ≤ x.cost ∧ x.cost ≤ 900:= by
  have hm:= List.mem_of_getElem? hx
  simp only [least0,List.mem_append,List.mem_map] at hm
  rcases hm with ⟨_,_,rfl⟩ | hm
  ·simp [lsR]
  ·cases g
   ·simp at hm
   ·simp at hm
    subst hm
    simp [lsL]
 have:= hf i
 have e1 : costN x.cost = true:= by simp [costN]; omega
 have e2 : costN (lsF (m + 1) f i) = true:= by
  unfold lsF
  split <;> simp [costN] <;> omega
 rw [e1,e2]
theorem leastW_ok (m : Nat) (h : m < 6) (f : Nat → Int) (g : Bool) : (leastW (m + 1) f g).OK:= by
 have o:= least0_ok m h g
 have e1 : ∀ x ∈ (leastW (m + 1) f g).ros,∃ y ∈ (least0 (m + 1) g).ros,x.a = y.a ∧ x.via = y.via:= by
  intro x hx
  obtain ⟨i,hi⟩:= List.mem_iff_getElem?.1 hx
  rw [leastW,costed_get] at hi
  obtain ⟨y,hy,rfl⟩:= Option.map_eq_some_iff.1 hi
  exact ⟨y,List.mem_of_getElem? hy,rfl,rfl⟩
 have e2 : ∀ x ∈ (leastW (m + 1) f g).ros,x.a < 4294967296:= fun x hx => by
  obtain ⟨y,hy,e,_⟩:= e1 x hx
  rw [e]
  exact o.roa y hy
 have e3 : ∀ x ∈ (leastW (m + 1) f g).ros,x.via < 4294967296:= fun x hx => by
  obtain ⟨y,hy,_,e⟩:= e1 x hx
  rw [e]
  exact o.rov y hy
 have e4 : (leastW (m + 1) f g).ros.length < 9223372036854775808:= by
  rw [leastW,costed_len]
  exact o.l4
 exact ⟨o.rtn,o.lkn,o.lka,o.pta,e2,e3,o.rga,o.rgr,o.scs,o.scg,o.mbg,o.mbs,o.mbl,o.l1,o.l2,o.l3,e4,o.l5,o.l6,o.l7⟩
theorem least0_facts : ∀ m,m < 6 → conW (least0 (m + 1) true) 0 335544325 = -1 ∧ conW (least0 (m + 1) false) 0 335544325 = -1 ∧ rouW (least0 (m + 1) true) 0 335544325 = [m + 1] ∧ rouW (least0 (m + 1) false) 0 335544325 = List.range (m + 1) ∧
  conW (least0 (m + 1) true) 0 (addrL 0 70) = 0 ∧ rouW (least0 (m + 1) true) 0 (addrL 0 70) = [] ∧ roAt (least0 (m + 1) true) (m + 1) = lsL ∧
  ∀ i,i < m + 1 → conW (least0 (m + 1) false) 0 (addrL 1 (50 + i)) = 1 ∧ rouW (least0 (m + 1) false) 0 (addrL 1 (50 + i)) = [] ∧ roAt (least0 (m + 1) false) i = lsR i:= by decide +kernel
def firstL (f : Nat → Int) : Nat → Nat
 | 0 => 0
 | k + 1 => if f k < f (firstL f k) then k else firstL f k
theorem firstL_le (f : Nat → Int) : ∀ k,firstL f k ≤ k - 1
 | 0 => Nat.le_refl _
 | k + 1 => by
  have:= firstL_le f k
  simp only [firstL]
  split <;> omega
theorem leastW_ro (m : Nat) (h : m < 6) (f : Nat → Int) (i : Nat) (hi : i < m + 1) : roAt (leastW (m + 1) f false) i = { lsR i with cost:= f i }:= by
 obtain ⟨_,_,_,_,_,_,_,hh⟩:= least0_facts m h
 rw [leastW,costed_ro _ _ _ (by simp [least0]; omega),(hh i hi).2.2,lsF,if_pos hi]
theorem range_tail (m : Nat) : List.range (m + 1) = 0 :: (List.range m).map (· + 1):= by
 rw [List.range_succ_eq_map]
theorem leastW_best (m : Nat) (h : m < 6) (f : Nat → Int) : ∀ k,k ≤ m → bestR (leastW (m + 1) f false) ((List.range k).map (· + 1)) 0 = firstL f (k + 1)
 | 0,_ => by simp [bestR,firstL]
 | k + 1,hk => by
  have ih:= leastW_best m h f k (by omega)
  have hl:= firstL_le f (k + 1)
  rw [List.range_succ,List.map_append,List.map_singleton,bestR_snoc,ih,bestStep,leastW_ro m h f _ (by omega),leastW_ro m h f _ (by omega)]
  simp only [firstL]
theorem leastW_look (m : Nat) (h : m < 6) (f : Nat → Int) (hf : ∀ i,0 ≤ f i ∧ f i ≤ 4) : lookN (leastW (m + 1) f false) 0 6 335544325 = some (1,addrL 1 (50 + firstL f (m + 1)),f (firstL f (m + 1))) ∧ lookN (leastW (m + 1) f true) 0 6 335544325 = some (0,addrL 0 70,900):= by
 obtain ⟨c1,c2,r1,r2,c3,r3,o1,hh⟩:= least0_facts m h
 have hl:= firstL_le f (m + 1)
 constructor
 ·have ec : conW (leastW (m + 1) f false) 0 335544325 = -1:= c2
  have er : rouW (leastW (m + 1) f false) 0 335544325 = 0 :: (List.range m).map (· + 1):= by rw [leastW,costed_rou,r2,range_tail]
  have hat : atW (leastW (m + 1) f false) 0 335544325 = false:= by
   rw [atB_eq,ec]
   rfl
  rw [lookN_succ hat er,leastW_best m h f m (Nat.le_refl _),leastW_ro m h f _ (by omega)]
  obtain ⟨d1,d2,_⟩:= hh (firstL f (m + 1)) (by omega)
  generalize firstL f (m + 1) = b at *
  have ec2 : conW (leastW (m + 1) f false) 0 (addrL 1 (50 + b)) = 1:= d1
  have er2 : rouW (leastW (m + 1) f false) 0 (addrL 1 (50 + b)) = []:= by rw [leastW,costed_rou,d2]
  have hat2 : atW (leastW (m + 1) f false) 0 (addrL 1 (50 + b)) = true:= by
   rw [atB_eq,ec2,er2]
   rfl
  have h1:= hf b
  simp only [lsR,lookN_at hat2,ec2,Int.zero_add,if_true]
  rw [if_pos (show f b ≤ 65535 by omega)]
  rfl
 ·have ec : conW (leastW (m + 1) f true) 0 335544325 = -1:= c1
  have er : rouW (leastW (m + 1) f true) 0 335544325 = (m + 1) :: []:= by rw [leastW,costed_rou,r1]
  have hat : atW (leastW (m + 1) f true) 0 335544325 = false:= by
   rw [atB_eq,ec]
   rfl
  have ero : roAt (leastW (m + 1) f true) (m + 1) = lsL:= by
   rw [leastW,costed_ro _ _ _ (by simp [least0]),o1,lsF,if_neg (by omega)]
   rfl
  rw [lookN_succ hat er]
  simp only [bestR,ero]
  have ec2 : conW (leastW (m + 1) f true) 0 (addrL 0 70) = 0:= c3
  have er2 : rouW (leastW (m + 1) f true) 0 (addrL 0 70) = []:= by rw [leastW,costed_rou,r3]
  have hat2 : atW (leastW (m + 1) f true) 0 (addrL 0 70) = true:= by
   rw [atB_eq,ec2,er2]
   rfl
  simp only [lsL,lookN_at hat2,ec2]
  rfl
end Go.Proofs.YtjceingdmfogeaaDoor.VL
end

section
set_option maxHeartbeats 4000000
namespace Go.Proofs.YtjceingdmfogeaaDoor.VL
open Go.RowKit Go.Proofs
def ringW (n : Nat) : NW:= ⟨rtrs 1,links 2,prts 1,(List.range n).map fun i => ⟨0,(20 + i) * 16777216,8,(20 + (i + 1) % n) * 16777216 + 1,0⟩,[⟨3758096384,4,addrL 0 1⟩],[],[]⟩
theorem ring_v : ∀ n,n < 6 → vNet (ringW (n + 1)) = none:= by decide +kernel
theorem ring_ok (n : Nat) (h : n < 6) : (ringW (n + 1)).OK:= by
 have : n = 0 ∨ n = 1 ∨ n = 2 ∨ n = 3 ∨ n = 4 ∨ n = 5:= by omega
 rcases this with rfl | rfl | rfl | rfl | rfl | rfl <;> (constructor <;> decide +kernel)
def ringB (n a : Nat) : Bool:= (lookN (ringW (n + 1)) 0 6 (335544320 + a)).isNone
theorem ring_look : ∀ n,n < 6 → ∀ a,a < 1000 → ringB n a = true:= by decide +kernel
theorem ring_99 : ∀ n,n < 6 → (lookN (ringW (n + 1)) 0 6 1660944384).isNone = true ∧ conW (ringW (n + 1)) 0 (addrL 1 9) = 1:= by decide +kernel
end Go.Proofs.YtjceingdmfogeaaDoor.VL
end

