import Derived.Test.YtelbgkknneljeaaGreatDoorGc14
set_option linter.unusedVariables false
set_option linter.unusedSimpArgs false
section
set_option maxHeartbeats 4000000
namespace Go.Proofs.YtelbgkknneljeaaGreatDoor.VL
open Go.RowKit Go.Proofs
def adsW (w : NW) : List Nat:= w.scs.map (fun x => x.s) ++ (w.mbs.flatMap (fun x => x.src) ++ w.rgs.map fun x => x.root)
def roundAt (w : NW) (r a : Nat) : Bool:= (toN w (r : Int) a).isSome && (chainW w (r : Int) a).isNone
def roundW (w : NW) : Bool:= (List.range w.rts.length).any fun r => (adsW w).any fun a => roundAt w r a
def RowA (l : List Nat) (v : AV) : Prop:= (l = [] ∧ v = .sl .nil 0 []) ∨ ∃ t,(t = 34 ∨ t = 48 ∨ t = 63) ∧ v = .sl (.own [t]) 1 (l.map avU)
theorem RowA.mk {t : Nat} (ht : t = 34 ∨ t = 48 ∨ t = 63) (l : List Nat) : RowA l (.sl (.own [t]) 1 (l.map avU)):= .inr ⟨t,ht,rfl⟩
def sA (w : NW) (i : Nat) : List Nat:= (w.scs.take i).map fun x => x.s
def mA (w : NW) (i : Nat) : List Nat:= w.scs.map (fun x => x.s) ++ (w.mbs.take i).flatMap fun x => x.src
def gA (w : NW) (i : Nat) : List Nat:= w.scs.map (fun x => x.s) ++ (w.mbs.flatMap (fun x => x.src) ++ (w.rgs.take i).map fun x => x.root)
theorem src_len {w : NW} (hv : vNet w = none) : (w.mbs.flatMap fun x => x.src).length ≤ 4 * w.mbs.length:= by
 have hx : ∀ x ∈ w.mbs,x.src.length ≤ 4:= fun x hx => by
  obtain ⟨i,hi⟩:= List.getElem?_of_mem hx
  exact (memOK hv hi).few
 generalize w.mbs = l at *
 induction l with
 | nil => simp
 | cons a l ih =>
  have h1:= hx a (by simp)
  have h2:= ih fun x h => hx x (by simp [h])
  simp only [List.flatMap_cons,List.length_append,List.length_cons]
  omega
theorem flat_take_le {α β : Type} (f : α → List β) : ∀ (l : List α) (i : Nat),((l.take i).flatMap f).length ≤ (l.flatMap f).length
 | [],i => by simp
 | a :: l,0 => by simp
 | a :: l,i + 1 => by
  have:= flat_take_le f l i
  simp only [List.take_succ_cons,List.flatMap_cons,List.length_append]
  omega
theorem ads_lt {w : NW} (h : w.OK) : ∀ a ∈ adsW w,a < 4294967296:= by
 intro a ha
 unfold adsW at ha
 rcases List.mem_append.1 ha with ha | ha
 ·obtain ⟨x,hx,rfl⟩:= List.mem_map.1 ha
  exact h.scs x hx
 ·rcases List.mem_append.1 ha with ha | ha
  ·obtain ⟨x,hx,hax⟩:= List.mem_flatMap.1 ha
   exact h.mbs x hx a hax
  ·obtain ⟨x,hx,rfl⟩:= List.mem_map.1 ha
   exact h.rgr x hx
theorem any_false_take {α : Type} {p : α → Bool} {l : List α} {i : Nat} {x : α} (h : (l.take i).any p = false) (hx : l[i]? = some x) (hp : p x = false) : (l.take (i + 1)).any p = false:= by
 rw [any_take_succ p hx,h,hp]
 rfl
theorem take_snoc_map {α β : Type} (f : α → β) {L : List α} {i : Nat} {p : α} (hp : L[i]? = some p) : (L.take (i + 1)).map f = (L.take i).map f ++ [f p]:= by
 rw [List.take_add_one,hp,Option.toList_some,List.map_append]
 rfl
theorem C_Round (w : NW) (h : w.OK) (hf : w.Fit) (hv : vNet w = none) : AC Tryz.prog f_q20 [.rp (topoV w)] (.lit (.bool (roundW w))):= by
 have z1 : w.rts.length ≤ 16:= len_le hv 0 (by decide)
 have z5 : w.rgs.length ≤ 8:= len_le hv 4 (by decide)
 have z6 : w.scs.length ≤ 8:= len_le hv 5 (by decide)
 have z7 : w.mbs.length ≤ 24:= len_le hv 6 (by decide)
 have zs:= src_len hv
 refine ac_q20 ?_ (Nat.le_add_left 1 _)
 simp only [go_sem,c_q20]
 refine callX_of (C_Raw w) ?_
 simp only [go_sem,netV,List.length_map]
 refine aw_loop (fun m E => ∃ (i : Nat) (v : AV),i + m = w.scs.length ∧ RowA (sA w i) v ∧ E = mkE [(0,.rp (topoV w)),(3,.rp (netV w)),(4,v),(23,.sl .none 3 (w.scs.map avSource)),(24,.lit (.int .i64 (w.scs.length : Nat))),(25,.lit (.int .i64 (i : Nat)))] []) w.scs.length ?_ ?_
 ·exact ⟨0,_,by omega,.inl ⟨rfl,rfl⟩,rfl⟩
 ·rintro m _ ⟨i,v,him,hra,rfl⟩
  by_cases hil : i < w.scs.length
  ·have f1 : ((i : Int) < (w.scs.length : Int)) = True:= eq_true (by omega)
   have hw:= wrap_succ i (by omega)
   obtain ⟨x,hx⟩ : ∃ x,w.scs[i]? = some x:= ⟨w.scs[i],List.getElem?_eq_getElem hil⟩
   have e1 : sA w (i + 1) = sA w i ++ [x.s]:= take_snoc_map (fun x : NSc => x.s) hx
   have e2 : (sA w (i + 1)).map avU = (sA w i).map avU ++ [.lit (.int .u32 (x.s : Nat))]:= by rw [e1,List.map_append]; rfl
   have hl : ((sA w i).map avU).length + [AV.lit (.int .u32 (x.s : Nat))].length ≤ 4294967296:= by simp [sA]; omega
   have fin:= RowA.mk (.inl rfl : (34 = 34 ∨ (34 : Nat) = 48 ∨ (34 : Nat) = 63)) (sA w (i + 1))
   rw [e2] at fin
   rcases hra with ⟨e0,rfl⟩ | ⟨t,ht,rfl⟩
   ·rw [e0] at fin
    have ea : ∀ s c,avApp 1 4 [] 34 s c (.sl .nil 0 []) (.sl (.own [33]) 1 [.lit (.int .u32 (x.s : Nat))]) = _:= fun s c => avApp_nil (d:= 34) (s:= s) (c:= c) 1 4 0 [] [] [.lit (.int .u32 (x.s : Nat))] (.own [33]) (by simp) (by decide)
    simp only [go_sem,f1,decide_true,Int.natCast_nonneg,Int.toNat_natCast,List.getElem?_map,hx,Option.map_some,rowAgg,avSource,avU,ea,hw]
    exact ⟨m - 1,by omega,i + 1,_,by omega,fin,rfl⟩
   ·have ea : ∀ s c,avApp 1 4 [] 34 s c (.sl (.own [t]) 1 ((sA w i).map avU)) (.sl (.own [33]) 1 [.lit (.int .u32 (x.s : Nat))]) = _:= fun s c => avApp_own (d:= 34) (s:= s) (c:= c) 1 4 [] [t] ((sA w i).map avU) [.lit (.int .u32 (x.s : Nat))] (.own [33]) hl (by decide) rfl
    simp only [go_sem,f1,decide_true,Int.natCast_nonneg,Int.toNat_natCast,List.getElem?_map,hx,Option.map_some,rowAgg,avSource,avU,ea,hw]
    exact ⟨m - 1,by omega,i + 1,_,by omega,fin,rfl⟩
  ·have f1 : ((i : Int) < (w.scs.length : Int)) = False:= eq_false (by omega)
   have e : sA w i = mA w 0:= by
    simp only [sA,mA]
    rw [List.take_of_length_le (by omega)]
    simp
   rw [e] at hra
   simp only [go_sem,f1,netV,List.length_map,decide_false]
   refine aw_loop (fun m E => ∃ (i : Nat) (v : AV),i + m = w.mbs.length ∧ RowA (mA w i) v ∧ E = mkE [(0,.rp (topoV w)),(3,.rp (netV w)),(4,v),(39,.sl .none 4 (w.mbs.map avMb)),(40,.lit (.int .i64 (w.mbs.length : Nat))),(41,.lit (.int .i64 (i : Nat)))] []) w.mbs.length ?_ ?_
   ·exact ⟨0,v,by omega,hra,rfl⟩
   ·rintro m _ ⟨i,v,him,hra,rfl⟩
    by_cases hil : i < w.mbs.length
    ·have f1 : ((i : Int) < (w.mbs.length : Int)) = True:= eq_true (by omega)
     have hw:= wrap_succ i (by omega)
     obtain ⟨x,hx⟩ : ∃ x,w.mbs[i]? = some x:= ⟨w.mbs[i],List.getElem?_eq_getElem hil⟩
     have hxf:= (memOK hv hx).few
     have e1 : mA w (i + 1) = mA w i ++ x.src:= by
      simp only [mA]
      rw [List.take_add_one,hx,Option.toList_some,List.flatMap_append,List.append_assoc]
      simp
     have e2 : (mA w (i + 1)).map avU = (mA w i).map avU ++ x.src.map avU:= by rw [e1,List.map_append]
     have hml:= flat_take_le (fun x : NM => x.src) w.mbs i
     have hl : ((mA w i).map avU).length + (x.src.map avU).length ≤ 4294967296:= by
      simp only [mA,List.length_map,List.length_append]
      omega
     have fin:= RowA.mk (.inr (.inl rfl) : ((48 : Nat) = 34 ∨ (48 : Nat) = 48 ∨ (48 : Nat) = 63)) (mA w (i + 1))
     rw [e2] at fin
     rcases hra with ⟨e0,rfl⟩ | ⟨t,ht,rfl⟩
     ·rw [e0] at fin
      have ea : ∀ s c,avApp 1 4 [] 48 s c (.sl .nil 0 []) (.sl .none 1 (x.src.map avU)) = _:= fun s c => avApp_nil (d:= 48) (s:= s) (c:= c) 1 4 0 [] [] (x.src.map avU) .none (by simp; omega) (by decide)
      simp only [go_sem,f1,decide_true,Int.natCast_nonneg,Int.toNat_natCast,List.getElem?_map,hx,Option.map_some,rowAgg,avMb,avU,ea,hw]
      exact ⟨m - 1,by omega,i + 1,_,by omega,fin,rfl⟩
     ·have ea : ∀ s c,avApp 1 4 [] 48 s c (.sl (.own [t]) 1 ((mA w i).map avU)) (.sl .none 1 (x.src.map avU)) = _:= fun s c => avApp_own (d:= 48) (s:= s) (c:= c) 1 4 [] [t] ((mA w i).map avU) (x.src.map avU) .none hl (by decide) rfl
      simp only [go_sem,f1,decide_true,Int.natCast_nonneg,Int.toNat_natCast,List.getElem?_map,hx,Option.map_some,rowAgg,avMb,avU,ea,hw]
      exact ⟨m - 1,by omega,i + 1,_,by omega,fin,rfl⟩
    ·have f1 : ((i : Int) < (w.mbs.length : Int)) = False:= eq_false (by omega)
     have e : mA w i = gA w 0:= by
      simp only [mA,gA]
      rw [List.take_of_length_le (by omega)]
      simp
     rw [e] at hra
     simp only [go_sem,f1,netV,List.length_map,decide_false]
     refine aw_loop (fun m E => ∃ (i : Nat) (v : AV),i + m = w.rgs.length ∧ RowA (gA w i) v ∧ E = mkE [(0,.rp (topoV w)),(3,.rp (netV w)),(4,v),(53,.sl .none 3 (w.rgs.map avRange)),(54,.lit (.int .i64 (w.rgs.length : Nat))),(55,.lit (.int .i64 (i : Nat)))] []) w.rgs.length ?_ ?_
     ·exact ⟨0,v,by omega,hra,rfl⟩
     ·rintro m _ ⟨i,v,him,hra,rfl⟩
      by_cases hil : i < w.rgs.length
      ·have f1 : ((i : Int) < (w.rgs.length : Int)) = True:= eq_true (by omega)
       have hw:= wrap_succ i (by omega)
       obtain ⟨x,hx⟩ : ∃ x,w.rgs[i]? = some x:= ⟨w.rgs[i],List.getElem?_eq_getElem hil⟩
       have e1 : gA w (i + 1) = gA w i ++ [x.root]:= by
        simp only [gA]
        rw [take_snoc_map (fun x : NRg => x.root) hx]
        simp
       have e2 : (gA w (i + 1)).map avU = (gA w i).map avU ++ [.lit (.int .u32 (x.root : Nat))]:= by rw [e1,List.map_append]; rfl
       have hl : ((gA w i).map avU).length + [AV.lit (.int .u32 (x.root : Nat))].length ≤ 4294967296:= by
        simp only [gA,List.length_map,List.length_append,List.length_take,List.length_singleton]
        omega
       have fin:= RowA.mk (.inr (.inr rfl) : ((63 : Nat) = 34 ∨ (63 : Nat) = 48 ∨ (63 : Nat) = 63)) (gA w (i + 1))
       rw [e2] at fin
       rcases hra with ⟨e0,rfl⟩ | ⟨t,ht,rfl⟩
       ·rw [e0] at fin
        have ea : ∀ s c,avApp 1 4 [] 63 s c (.sl .nil 0 []) (.sl (.own [62]) 1 [.lit (.int .u32 (x.root : Nat))]) = _:= fun s c => avApp_nil (d:= 63) (s:= s) (c:= c) 1 4 0 [] [] [.lit (.int .u32 (x.root : Nat))] (.own [62]) (by simp) (by decide)
        simp only [go_sem,f1,decide_true,Int.natCast_nonneg,Int.toNat_natCast,List.getElem?_map,hx,Option.map_some,rowAgg,avRange,avU,ea,hw]
        exact ⟨m - 1,by omega,i + 1,_,by omega,fin,rfl⟩
       ·have ea : ∀ s c,avApp 1 4 [] 63 s c (.sl (.own [t]) 1 ((gA w i).map avU)) (.sl (.own [62]) 1 [.lit (.int .u32 (x.root : Nat))]) = _:= fun s c => avApp_own (d:= 63) (s:= s) (c:= c) 1 4 [] [t] ((gA w i).map avU) [.lit (.int .u32 (x.root : Nat))] (.own [62]) hl (by decide) rfl
        simp only [go_sem,f1,decide_true,Int.natCast_nonneg,Int.toNat_natCast,List.getElem?_map,hx,Option.map_some,rowAgg,avRange,avU,ea,hw]
        exact ⟨m - 1,by omega,i + 1,_,by omega,fin,rfl⟩
      ·have f1 : ((i : Int) < (w.rgs.length : Int)) = False:= eq_false (by omega)
       have e : gA w i = adsW w:= by
        simp only [gA,adsW]
        rw [List.take_of_length_le (by omega)]
       rw [e] at hra
       have hlt:= ads_lt h
       have hal : (adsW w).length ≤ 1000:= by
        simp only [adsW,List.length_map,List.length_append]
        omega
       have hRW : roundW w = (List.range w.rts.length).any fun r => (adsW w).any fun a => roundAt w r a:= rfl
       generalize adsW w = L at *
       simp only [go_sem,f1,netV,List.length_map,decide_false]
       refine aw_loop (fun m E => ∃ r : Nat,r + m = w.rts.length ∧ ((List.range w.rts.length).take r).any (fun r => L.any fun a => roundAt w r a) = false ∧ E = mkE [(0,.rp (topoV w)),(4,v),(69,.lit (.int .i64 (w.rts.length : Nat))),(70,.lit (.int .i64 (r : Nat)))] []) w.rts.length ?_ ?_
       ·exact ⟨0,by omega,by simp,rfl⟩
       ·rintro m _ ⟨r,hrm,hno,rfl⟩
        by_cases hrl : r < w.rts.length
        ·have f1 : ((r : Int) < (w.rts.length : Int)) = True:= eq_true (by omega)
         have hwr:= wrap_succ r (by omega)
         have hrr : (List.range w.rts.length)[r]? = some r:= by simp [hrl]
         rcases hra with ⟨e0,rfl⟩ | ⟨t,ht,rfl⟩
         ·subst e0
          have f0 : ((0 : Int) < ((0 : Nat) : Int)) = False:= eq_false (by omega)
          simp only [go_sem,f1,decide_true,List.length_nil]
          refine aw_loop (fun m E => E = mkE [(0,.rp (topoV w)),(4,.sl .nil 0 []),(11,.lit (.int .i64 (r : Nat))),(69,.lit (.int .i64 (w.rts.length : Nat))),(70,.lit (.int .i64 (r : Nat))),(73,.sl .nil 0 []),(74,.lit (.int .i64 ((0 : Nat) : Int))),(75,.lit (.int .i64 0))] []) 0 rfl ?_
          rintro m' _ rfl
          simp only [go_sem,f0,decide_false,hwr]
          exact ⟨m - 1,by omega,r + 1,by omega,any_false_take hno hrr rfl,rfl⟩
         ·simp only [go_sem,f1,decide_true,List.length_map]
          refine aw_loop (fun m E => ∃ k : Nat,k + m = L.length ∧ (L.take k).any (fun a => roundAt w r a) = false ∧ E = mkE [(0,.rp (topoV w)),(4,.sl (.own [t]) 1 (L.map avU)),(11,.lit (.int .i64 (r : Nat))),(69,.lit (.int .i64 (w.rts.length : Nat))),(70,.lit (.int .i64 (r : Nat))),(73,.sl (.own [t]) 1 (L.map avU)),(74,.lit (.int .i64 (L.length : Nat))),(75,.lit (.int .i64 (k : Nat)))] []) L.length ?_ ?_
          ·exact ⟨0,by omega,by simp,rfl⟩
          ·rintro m' _ ⟨k,hk,hnk,rfl⟩
           have hrI:= fun x => avRow_some 1 (.own [t]) (AV.lit x) rfl
           by_cases hkl : k < L.length
           ·have q1 : ((k : Int) < (L.length : Int)) = True:= eq_true (by omega)
            have hwk:= wrap_succ k (by omega)
            obtain ⟨a,ha⟩ : ∃ a,L[k]? = some a:= ⟨L[k],List.getElem?_eq_getElem hkl⟩
            have hal':= hlt a (List.mem_of_getElem? ha)
            have hTo:= C_To w h hf hv (r : Int) a hal'
            have hCh:= C_Chain w h hf hv (r : Int) ⟨by omega,by omega⟩ a hal'
            rw [toV_eq] at hTo
            simp only [avU] at hTo hCh
            have hat : roundAt w r a = ((toN w (r : Int) a).isSome && (chainW w (r : Int) a).isNone):= rfl
            simp only [go_sem,q1,decide_true,Int.natCast_nonneg,Int.toNat_natCast,List.getElem?_map,ha,hrI,Option.map_some,avU]
            refine callX_of hTo ?_
            cases hto : (toN w (r : Int) a).isSome
            ·rw [hto] at hat
             simp only [go_sem,hopC_retag,hopC_one,hopC_len,Nat.le_refl,hwk]
             exact ⟨m' - 1,by omega,k + 1,by omega,any_false_take hnk ha hat,rfl⟩
            ·rw [hto] at hat
             simp only [go_sem,hopC_retag,hopC_one,hopC_len,Nat.le_refl]
             refine callX_of hCh ?_
             cases hch : chainW w (r : Int) a with
             | none =>
              rw [hch] at hat
              have hRt : roundW w = true:= by
               rw [hRW]
               refine List.any_eq_true.2 ⟨r,List.mem_of_getElem? hrr,List.any_eq_true.2 ⟨a,List.mem_of_getElem? ha,hat⟩⟩
              rw [hRt]
              simp only [go_sem,chainV]
             | some q =>
              rw [hch] at hat
              simp only [go_sem,chainV,hwk]
              exact ⟨m' - 1,by omega,k + 1,by omega,any_false_take hnk ha hat,rfl⟩
           ·have q1 : ((k : Int) < (L.length : Int)) = False:= eq_false (by omega)
            have hLk : L.any (fun a => roundAt w r a) = false:= by
             rw [List.take_of_length_le (by omega)] at hnk
             exact hnk
            simp only [go_sem,q1,decide_false,hwr]
            exact ⟨m - 1,by omega,r + 1,by omega,any_false_take hno hrr hLk,rfl⟩
        ·have f1 : ((r : Int) < (w.rts.length : Int)) = False:= eq_false (by omega)
         have hRt : roundW w = false:= by
          rw [hRW,← hno]
          rw [List.take_of_length_le (by simp; omega)]
         rw [hRt]
         simp only [go_sem,f1,decide_false]
theorem line_v20' : vNet (lineW 2 0) = none:= by decide +kernel
theorem line_ok20' : (lineW 2 0).OK:= by
 constructor <;> decide +kernel
theorem line_t20 : toN (lineW 2 0) 0 (addrL 0 1) = some ⟨-1,-1,0,true⟩:= by decide +kernel
theorem line_r20 : roundW (lineW 2 0) = false:= by decide +kernel
theorem C_first11 : AC Tryz.prog f_q15 [] (.lit (.bool true)):= by
 refine ac_q15 ?_ (Nat.zero_le _)
 have hL:= C_To (lineW 2 0) line_ok20' (vfit line_v20') line_v20' 0 (addrL 0 1) (by decide)
 rw [line_t20] at hL
 have hR:= C_Round (lineW 2 0) line_ok20' (vfit line_v20') line_v20'
 rw [line_r20] at hR
 have k1 : ((-1 : Int) == -1) = true:= rfl
 simp only [go_sem,c_q15]
 refine callX_of (C_Line 2 0 (by decide) (by decide) (by decide)) ?_
 simp only [go_sem,low_net,one_net,len_net,take_net,Nat.le_refl]
 refine callX_of (C_New (lineW 2 0) line_ok20' (vfit line_v20') line_v20') ?_
 simp only [go_sem]
 refine callX_of (C_nAddr 0 1 (by decide) (by decide)) ?_
 simp only [go_sem]
 refine callX_of hL ?_
 simp only [go_sem,toV,hopV,k1]
 refine callX_of hR ?_
 simp only [go_sem]
end Go.Proofs.YtelbgkknneljeaaGreatDoor.VL
end

section
set_option maxHeartbeats 4000000
namespace Go.Proofs.YtelbgkknneljeaaGreatDoor.VL
open Go.RowKit Go.Proofs
theorem C_RpfUp (w : NW) (h : w.OK) (r : Int) (a : Nat) (ha : a < 4294967296) : AC Tryz.prog f_q2 [.agg (netV w),.lit (.int .i64 r),avU a] (.lit (.bool true)):= by
 refine ac_q2 ?_ (Nat.le_add_left 3 _)
 simp only [go_sem,c_q2,low_net,one_net,len_net,take_net,Nat.le_refl,avU]
 refine callX_of C_first11 ?_
 simp only [go_sem,low_net,one_net,len_net,take_net,Nat.le_refl]
 refine callX_of (C_Light w h 8) ?_
 cases hL : lightN w 8
 ·simp only [go_sem]
 have lo:= lightN_iff.1 hL
 have hv:= lo.v
 have hf:= vfit hv
 have z3:= lo.l3
 by_cases h0 : r < 0
 ·have g1 : (r < 0) = True:= eq_true h0
  simp only [go_sem,g1,decide_true]
 have g1 : (r < 0) = False:= eq_false h0
 by_cases h1 : (w.rts.length : Int) ≤ r
 ·have g2 : ((w.rts.length : Int) ≤ r) = True:= eq_true h1
  simp only [go_sem,netV,List.length_map,g1,g2,decide_true,decide_false]
 have g2 : ((w.rts.length : Int) ≤ r) = False:= eq_false h1
 have hr : 0 ≤ r ∧ r < (w.rts.length : Int):= by omega
 have hN:= C_New w h hf hv
 simp only [netV] at hN
 simp only [go_sem,netV,List.length_map,g1,g2,decide_false]
 refine callX_of hN ?_
 simp only [go_sem]
 refine callX_of (C_OfT w hf r) ?_
 simp only [go_sem]
 have hm:= fun p (hp : p ∈ ofW w r) => ofW_rt hp
 have hlen:= ofW_len w r
 have hTo:= C_To w h hf hv r a ha
 rw [toV_eq] at hTo
 simp only [avU] at hTo
 have hup:= fun hp (ht : toN w r a = some hp) => toN_up hv ht
 generalize toN w r a = T at *
 generalize ofW w r = L at *
 refine aw_loop (fun m E => ∃ i : Nat,i + m = L.length ∧ E = mkE [(1,.lit (.int .i64 r)),(2,avU a),(3,.lp 3 0),(7,.lit (.bool true)),(8,.rp (topoV w)),(10,.sl .none 1 (L.map avI)),(11,.lit (.int .i64 (i : Nat)))] [(3,netV w)]) L.length ?_ ?_
 ·exact ⟨0,by omega,rfl⟩
 ·rintro m _ ⟨i,him,rfl⟩
  have hrI:= fun x => avRow_some 1 .none (AV.lit x) rfl
  have b1 : ((-1 : Int) != -1) = false:= rfl
  have b2 : ((0 : Int) != 0) = false:= rfl
  have b3 : ((-1 : Int) == -1) = true:= rfl
  have b4 : ((0 : Int) == 0) = true:= rfl
  by_cases hil : i < L.length
  ·have f1 : ((i : Int) < (L.length : Int)) = True:= eq_true (by omega)
   have hw:= wrap_succ i (by omega)
   obtain ⟨p,hp⟩ : ∃ p,L[i]? = some p:= ⟨L[i],List.getElem?_eq_getElem hil⟩
   obtain ⟨x,hx,hxr⟩:= hm p (List.mem_of_getElem? hp)
   have hTx:= C_To w h hf hv r x.a (h.pta x (List.mem_of_getElem? hx))
   rw [toN_own hv hr hx hxr] at hTx
   simp only [avU,toV,hopV] at hTx
   simp only [go_sem,f1,netV,List.length_map,decide_true,Int.natCast_nonneg,Int.toNat_natCast,List.getElem?_map,hp,hx,hrI,Option.map_some,rowAgg,avPort,avU,avI]
   refine callX_of hTx ?_
   simp only [go_sem,b1,b2,hw]
   exact ⟨m - 1,by omega,i + 1,by omega,rfl⟩
  ·have f1 : ((i : Int) < (L.length : Int)) = False:= eq_false (by omega)
   simp only [go_sem,f1,List.length_map,decide_false,avU]
   refine callX_of hTo ?_
   cases T with
   | none => simp only [go_sem,hopC_retag,hopC_one,hopC_len,hopC,Nat.le_refl,Option.isSome_none,b4]
   | some hp =>
    rcases hup hp rfl with ⟨e1,e2,e3⟩ | ⟨p,e1,hpm,hu,c0,c1⟩
    ·have n1 : ((-1 : Int) < 0) = True:= eq_true (by decide)
     simp only [go_sem,hopC_retag,hopC_one,hopC_len,hopC,Nat.le_refl,Option.isSome_some,e1,e2,n1,b3,decide_true]
    ·have n1 : ((p : Int) < 0) = False:= eq_false (by omega)
     have hA:= C_Among L p (by omega)
     have hany : (L.any fun y => y == p) = true:= List.any_eq_true.2 ⟨p,hpm,by simp⟩
     rw [hany] at hA
     simp only [avI] at hA
     have n2 : (0 ≤ hp.cost) = True:= eq_true c0
     have n3 : (hp.cost ≤ 65535) = True:= eq_true c1
     have n4 : (hp.cost ≥ 0) = True:= eq_true c0
     rcases hu with hu | ⟨q,hu,hq,hql⟩
     ·simp only [go_sem,hopC_retag,hopC_one,hopC_len,hopC,Nat.le_refl,Option.isSome_some,e1,hu,n1,decide_false]
      refine callX_of hA ?_
      simp only [go_sem,b3,n2,n3,n4,decide_true]
     ·have n5 : ((q : Int) == -1) = false:= by simp
      have hO:= C_Others w hf hv (p : Int)
      have hol : (othersI w (p : Int)).length ≤ w.pts.length:= by
       simp only [othersI]
       split
       ·split
        ·exact Nat.le_trans (List.length_filter_le _ _) (onW_le w _)
        ·exact Nat.zero_le _
       ·exact Nat.zero_le _
      have hA2:= C_Among (othersI w (p : Int)) q (by omega)
      rw [hq] at hA2
      simp only [avI] at hA2
      simp only [go_sem,hopC_retag,hopC_one,hopC_len,hopC,Nat.le_refl,Option.isSome_some,e1,hu,n1,decide_false]
      refine callX_of hA ?_
      simp only [go_sem,n5]
      refine callX_of hO ?_
      simp only [go_sem]
      refine callX_of hA2 ?_
      simp only [go_sem,n2,n3,n4,decide_true]
end Go.Proofs.YtelbgkknneljeaaGreatDoor.VL
end

section
set_option maxHeartbeats 4000000
namespace Go.Proofs.YtelbgkknneljeaaGreatDoor.VL
open Go.RowKit Go.Proofs
theorem runF_len (f : Int → Option Int) : ∀ (n : Nat) (l : List Int) (r : Int) (m : List Int),runF f n l r = some m → m.length ≤ l.length + n
 | 0,l,r,m,h => by cases h
 | n + 1,l,r,m,h => by
  simp only [runF] at h
  split at h
  ·injection h with h
   rw [← h]
   omega
  ·split at h
   ·cases h
   ·have:= runF_len f n _ _ m h
    rw [List.length_append,List.length_singleton] at this
    omega
theorem chain_len {w : NW} {r : Int} {a : Nat} {m : List Int} (h : chainW w r a = some m) : m.length ≤ w.rts.length + 2:= by
 unfold chainW at h
 split at h
 ·cases h
 ·have:= runF_len _ _ _ _ _ h
  rw [List.length_singleton] at this
  omega
theorem C_RpfChains (w : NW) (h : w.OK) (r : Int) (a : Nat) (ha : a < 4294967296) : AC Tryz.prog f_q3 [.agg (netV w),.lit (.int .i64 r),avU a] (.lit (.bool true)):= by
 refine ac_q3 ?_ (Nat.le_add_left 3 _)
 simp only [go_sem,c_q3,low_net,one_net,len_net,take_net,Nat.le_refl,avU]
 refine callX_of C_first11 ?_
 simp only [go_sem,low_net,one_net,len_net,take_net,Nat.le_refl]
 refine callX_of (C_Light w h 8) ?_
 cases hL : lightN w 8
 ·simp only [go_sem]
 have lo:= lightN_iff.1 hL
 have hv:= lo.v
 have hf:= vfit hv
 have z1 : w.rts.length ≤ 16:= len_le hv 0 (by decide)
 by_cases h0 : r < 0
 ·have g1 : (r < 0) = True:= eq_true h0
  simp only [go_sem,g1,decide_true]
 have g1 : (r < 0) = False:= eq_false h0
 by_cases h1 : (w.rts.length : Int) ≤ r
 ·have g2 : ((w.rts.length : Int) ≤ r) = True:= eq_true h1
  simp only [go_sem,netV,List.length_map,g1,g2,decide_true,decide_false]
 have g2 : ((w.rts.length : Int) ≤ r) = False:= eq_false h1
 have hr : 0 ≤ r ∧ r < (w.rts.length : Int):= by omega
 have hN:= C_New w h hf hv
 simp only [netV] at hN
 simp only [go_sem,netV,List.length_map,g1,g2,decide_false]
 refine callX_of hN ?_
 simp only [go_sem]
 have hC:= C_Chain w h hf hv r hr a ha
 have hTo:= C_To w h hf hv r a ha
 rw [toV_eq] at hTo
 simp only [avU] at hC hTo
 cases ht : toN w r a with
 | none =>
  have hc : chainW w r a = none:= by
   unfold chainW
   rw [ht]
  rw [hc] at hC
  rw [ht] at hTo
  simp only [chainV] at hC
  refine callX_of hC ?_
  simp only [go_sem]
  refine callX_of hTo ?_
  simp only [go_sem,hopC_retag,hopC_one,hopC_len,hopC,Nat.le_refl,Option.isSome_none]
 | some hp =>
  rw [ht] at hTo
  by_cases hu : hp.up < 0
  ·have n1 : (hp.up < 0) = True:= eq_true hu
   rw [chain_end ht hu] at hC
   have hS:= C_SameInts [r] [r] (by simp)
   simp only [decide_true,List.map_cons,List.map_nil,iI] at hS
   simp only [chainV,List.map_cons,List.map_nil,iI] at hC
   refine callX_of hC ?_
   simp only [go_sem]
   refine callX_of hTo ?_
   simp only [go_sem,hopC_retag,hopC_one,hopC_len,hopC,Nat.le_refl,Option.isSome_some,n1,decide_true]
   refine callX_of hS ?_
   simp only [go_sem]
  ·have n1 : (hp.up < 0) = False:= eq_false hu
   have hq : ∃ q : Nat,hp.up = (q : Int) ∧ q < w.pts.length:= by
    rcases toN_up hv ht with ⟨_,e,_⟩ | ⟨_,_,_,e | ⟨q,e,_,hl⟩,_⟩
    ·omega
    ·omega
    ·exact ⟨q,e,hl⟩
   obtain ⟨q,hq,hql⟩:= hq
   obtain ⟨x,hx⟩ : ∃ x,w.pts[q]? = some x:= ⟨w.pts[q],List.getElem?_eq_getElem hql⟩
   have n2 : ((q : Int) < 0) = False:= eq_false (by omega)
   have hxr : 0 ≤ x.rt ∧ x.rt < (w.rts.length : Int):= by
    obtain ⟨j,hj,hl⟩:= (portOK hv hx).rt
    omega
   have hc:= chain_step hv hr ht hq hx
   have hCx:= C_Chain w h hf hv x.rt hxr a ha
   have hTx:= C_To w h hf hv x.rt a ha
   rw [toV_eq] at hTx
   simp only [avU] at hCx hTx
   cases htx : toN w x.rt a with
   | none =>
    have hcx : chainW w x.rt a = none:= by
     unfold chainW
     rw [htx]
    have hne : r ∉ [x.rt]:= fun hm => by
     have : r = x.rt:= by simpa using hm
     rw [← this,ht] at htx
     cases htx
    rw [run_none htx] at hc
    simp only [if_neg hne] at hc
    have hS:= C_SameInts [r,x.rt] [r,x.rt] (by simp)
    simp only [decide_true,List.map_cons,List.map_nil,iI] at hS
    rw [hc] at hC
    rw [hcx] at hCx
    rw [htx] at hTx
    simp only [chainV,List.map_cons,List.map_nil,iI] at hC hCx
    refine callX_of hC ?_
    simp only [go_sem]
    refine callX_of hTo ?_
    simp only [go_sem,hopC_retag,hopC_one,hopC_len,hopC,Nat.le_refl,Option.isSome_some,hq,n2,decide_false,Int.natCast_nonneg,Int.toNat_natCast,List.getElem?_map,hx,Option.map_some,rowAgg,avPort]
    refine callX_of hCx ?_
    simp only [go_sem,Int.natCast_nonneg,Int.toNat_natCast,List.getElem?_map,hx,Option.map_some,rowAgg,avPort]
    refine callX_of hTx ?_
    simp only [go_sem,hopC_retag,hopC_one,hopC_len,hopC,Nat.le_refl,Option.isSome_none,Int.natCast_nonneg,Int.toNat_natCast,List.getElem?_map,hx,Option.map_some,rowAgg,avPort]
    refine callX_of hS ?_
    simp only [go_sem]
   | some hp' =>
    have hcx : chainW w x.rt a = runF (nextF w a) (w.rts.length + 1) [x.rt] x.rt:= by
     unfold chainW
     rw [htx]
    rw [← hcx] at hc
    rw [htx] at hTx
    cases hm : chainW w x.rt a with
    | none =>
     rw [hm] at hc hCx
     simp only at hc
     rw [hc] at hC
     simp only [chainV] at hC hCx
     refine callX_of hC ?_
     simp only [go_sem]
     refine callX_of hTo ?_
     simp only [go_sem,hopC_retag,hopC_one,hopC_len,hopC,Nat.le_refl,Option.isSome_some,hq,n2,decide_false,Int.natCast_nonneg,Int.toNat_natCast,List.getElem?_map,hx,Option.map_some,rowAgg,avPort]
     refine callX_of hCx ?_
     simp only [go_sem,Int.natCast_nonneg,Int.toNat_natCast,List.getElem?_map,hx,Option.map_some,rowAgg,avPort]
     refine callX_of hTx ?_
     simp only [go_sem,hopC_retag,hopC_one,hopC_len,hopC,Nat.le_refl,Option.isSome_some]
    | some m =>
     rw [hm] at hc hCx
     have hml:= chain_len hm
     simp only at hc
     by_cases hrm : r ∈ m
     ·rw [if_pos hrm] at hc
      rw [hc] at hC
      simp only [chainV] at hC hCx
      have hA:= C_AmongZ m r (by omega)
      have hany : (m.any fun y => y == r) = true:= List.any_eq_true.2 ⟨r,hrm,by simp⟩
      rw [hany] at hA
      simp only [iI] at hA
      refine callX_of hC ?_
      simp only [go_sem]
      refine callX_of hTo ?_
      simp only [go_sem,hopC_retag,hopC_one,hopC_len,hopC,Nat.le_refl,Option.isSome_some,hq,n2,decide_false,Int.natCast_nonneg,Int.toNat_natCast,List.getElem?_map,hx,Option.map_some,rowAgg,avPort]
      refine callX_of hCx ?_
      simp only [go_sem,Int.natCast_nonneg,Int.toNat_natCast,List.getElem?_map,hx,Option.map_some,rowAgg,avPort]
      refine callX_of hTx ?_
      simp only [go_sem,hopC_retag,hopC_one,hopC_len,hopC,Nat.le_refl,Option.isSome_some]
      refine callX_of hA ?_
      simp only [go_sem]
     ·rw [if_neg hrm] at hc
      rw [hc] at hC
      simp only [chainV] at hC hCx
      have hS:= C_SameInts (r :: m) (r :: m) (by simp; omega)
      have e2 : (r :: m).map iI = [AV.lit (.int .i64 r)] ++ m.map iI:= rfl
      rw [e2] at hC hS
      simp only [decide_true] at hS
      have hlen : [AV.lit (.int .i64 r)].length + (m.map iI).length ≤ 4294967296:= by simp; omega
      have ea : ∀ s c,avApp 1 8 [] 163 s c (.sl (.own [161]) 1 [.lit (.int .i64 r)]) (.sl .none 1 (m.map iI)) = _:= fun s c => avApp_own (d:= 163) (s:= s) (c:= c) 1 8 [] [161] [.lit (.int .i64 r)] (m.map iI) .none hlen (by decide) rfl
      refine callX_of hC ?_
      simp only [go_sem]
      refine callX_of hTo ?_
      simp only [go_sem,hopC_retag,hopC_one,hopC_len,hopC,Nat.le_refl,Option.isSome_some,hq,n2,decide_false,Int.natCast_nonneg,Int.toNat_natCast,List.getElem?_map,hx,Option.map_some,rowAgg,avPort]
      refine callX_of hCx ?_
      simp only [go_sem,Int.natCast_nonneg,Int.toNat_natCast,List.getElem?_map,hx,Option.map_some,rowAgg,avPort]
      refine callX_of hTx ?_
      simp only [go_sem,hopC_retag,hopC_one,hopC_len,hopC,Nat.le_refl,Option.isSome_some,ea]
      refine callX_of hS ?_
      simp only [go_sem]
end Go.Proofs.YtelbgkknneljeaaGreatDoor.VL
end

