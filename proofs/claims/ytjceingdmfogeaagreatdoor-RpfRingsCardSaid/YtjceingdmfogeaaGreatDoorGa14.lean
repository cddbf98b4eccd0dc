import Derived.Test.YtjceingdmfogeaaGreatDoorGa13
set_option linter.unusedVariables false
set_option linter.unusedSimpArgs false
section
set_option maxHeartbeats 4000000
namespace Go.Proofs.YtjceingdmfogeaaGreatDoor.VL
open Go.RowKit Go.Proofs
def adsW (w : NW) : List Nat:= w.scs.map (fun x => x.s) ++ (w.mbs.flatMap (fun x => x.src) ++ w.rgs.map fun x => x.root)
def roundAt (w : NW) (r a : Nat) : Bool:= (toN w (r : Int) a).isSome && (chainW w (r : Int) a).isNone
def roundW (w : NW) : Bool:= (List.range w.rts.length).any fun r => (adsW w).any fun a => roundAt w r a
def RowA (l : List Nat) (v : AV) : Prop:= (l = [] ∧ v = .sl .nil 0 []) ∨ ∃ t,(t = 34 ∨ t = 48 ∨ t = 63) ∧ v = .sl (.own [t]) 1 (l.map avU)
theorem RowA.mk {t : Nat} (ht : t = 34 ∨ t = 48 ∨ t = 63) (l : List Nat) : RowA l (.sl (.own [t]) 1 (l.map avU)):= .inr ⟨t,ht,rfl⟩
def sA (w : NW) (i : Nat) : List Nat:= (w.scs.take i).map fun x => x.s
def mA (w : NW) (i : Nat) : List Nat:= w.scs.map (fun x => x.s) ++ (w.mbs.take i).flatMap fun x => x.src
def gA (w : NW) (i : Nat) : List Nat:= w.scs.map (fun x => x.s) ++ (w.mbs.flatMap (fun x => x.src) ++ (w.rgs.take i).map fun x => x.root)
theorem src_len {w : NW} (hv : vNet w = none) : (w.mbs.flatMap fun x => x.src).length ≤ 4 * w.mbs.length:= by
 have hx : ∀ x ∈ w.mbs,x.src.length ≤ 4:= fun x hx => by
  obtain ⟨i,hi⟩:= List.getElem?_of_mem hx
  exact (memOK hv hi).few
 generalize w.mbs = l at *
 induction l with
 | nil => simp
 | cons a l ih =>
  have h1:= hx a (by simp)
  have h2:= ih fun x h => hx x (by simp [h])
  simp only [List.flatMap_cons,List.length_append,List.length_cons]
  omega
theorem flat_take_le {α β : Type} (f : α → List β) : ∀ (l : List α) (i : Nat),((l.take i).flatMap f).length ≤ (l.flatMap f).length
 | [],i => by simp
 | a :: l,0 => by simp
 | a :: l,i + 1 => by
  have:= flat_take_le f l i
  simp only [List.take_succ_cons,List.flatMap_cons,List.length_append]
  omega
theorem ads_lt {w : NW} (h : w.OK) : ∀ a ∈ adsW w,a < 4294967296:= by
 intro a ha
 unfold adsW at ha
 rcases List.mem_append.1 ha with ha | ha
 ·obtain ⟨x,hx,rfl⟩:= List.mem_map.1 ha
  exact h.scs x hx
 ·rcases List.mem_append.1 ha with ha | ha
  ·obtain ⟨x,hx,hax⟩:= List.mem_flatMap.1 ha
   exact h.mbs x hx a hax
  ·obtain ⟨x,hx,rfl⟩:= List.mem_map.1 ha
   exact h.rgr x hx
theorem any_false_take {α : Type} {p : α → Bool} {l : List α} {i : Nat} {x : α} (h : (l.take i).any p = false) (hx : l[i]? = some x) (hp : p x = false) : (l.take (i + 1)).any p = false:= by
 rw [any_take_succ p hx,h,hp]
 rfl
theorem take_snoc_map {α β : Type} (f : α → β) {L : List α} {i : Nat} {p : α} (hp : L[i]? = some p) : (L.take (i + 1)).map f = (L.take i).map f ++ [f p]:= by
 rw [List.take_add_one,hp,Option.toList_some,List.map_append]
 rfl
theorem C_Round (w : NW) (h : w.OK) (hf : w.Fit) (hv : vNet w = none) : AC Tryz.prog f_q15 [.rp (topoV w)] (.lit (.bool (roundW w))):= by
 have z1 : w.rts.length ≤ 16:= len_le hv 0 (by decide)
 have z5 : w.rgs.length ≤ 8:= len_le hv 4 (by decide)
 have z6 : w.scs.length ≤ 8:= len_le hv 5 (by decide)
 have z7 : w.mbs.length ≤ 24:= len_le hv 6 (by decide)
 have zs:= src_len hv
 refine ac_q15 ?_ (Nat.le_add_left 1 _)
 simp only [go_sem,c_q15]
 refine callX_of (C_Raw w) ?_
 simp only [go_sem,netV,List.length_map]
 refine aw_loop (fun m E => ∃ (i : Nat) (v : AV),i + m = w.scs.length ∧ RowA (sA w i) v ∧ E = mkE [(0,.rp (topoV w)),(3,.rp (netV w)),(4,v),(23,.sl .none 3 (w.scs.map avSource)),(24,.lit (.int .i64 (w.scs.length : Nat))),(25,.lit (.int .i64 (i : Nat)))] []) w.scs.length ?_ ?_
 ·exact ⟨0,_,by omega,.inl ⟨rfl,rfl⟩,rfl⟩
 ·rintro m _ ⟨i,v,him,hra,rfl⟩
  by_cases hil : i < w.scs.length
  ·have f1 : ((i : Int) < (w.scs.length : Int)) = True:= eq_true (by omega)
   have hw:= wrap_succ i (by omega)
   obtain ⟨x,hx⟩ : ∃ x,w.scs[i]? = some x:= ⟨w.scs[i],List.getElem?_eq_getElem hil⟩
   have e1 : sA w (i + 1) = sA w i ++ [x.s]:= take_snoc_map (fun x : NSc => x.s) hx
   have e2 : (sA w (i + 1)).map avU = (sA w i).map avU ++ [.lit (.int .u32 (x.s : Nat))]:= by rw [e1,List.map_append]; rfl
   have hl : ((sA w i).map avU).length + [AV.lit (.int .u32 (x.s : Nat))].length ≤ 4294967296:= by simp [sA]; omega
   have fin:= RowA.mk (.inl rfl : (34 = 34 ∨ (34 : Nat) = 48 ∨ (34 : Nat) = 63)) (sA w (i + 1))
   rw [e2] at fin
   rcases hra with ⟨e0,rfl⟩ | ⟨t,ht,rfl⟩
   ·rw [e0] at fin
    have ea : ∀ s c,avApp 1 4 [] 34 s c (.sl .nil 0 []) (.sl (.own [33]) 1 [.lit (.int .u32 (x.s : Nat))]) = _:= fun s c => avApp_nil (d:= 34) (s:= s) (c:= c) 1 4 0 [] [] [.lit (.int .u32 (x.s : Nat))] (.own [33]) (by simp) (by decide)
    simp only [go_sem,f1,decide_true,Int.natCast_nonneg,Int.toNat_natCast,List.getElem?_map,hx,Option.map_some,rowAgg,avSource,avU,ea,hw]
    exact ⟨m - 1,by omega,i + 1,_,by omega,fin,rfl⟩
   ·have ea : ∀ s c,avApp 1 4 [] 34 s c (.sl (.own [t]) 1 ((sA w i).map avU)) (.sl (.own [33]) 1 [.lit (.int .u32 (x.s : Nat))]) = _:= fun s c => avApp_own (d:= 34) (s:= s) (c:= c) 1 4 [] [t] ((sA w i).map avU) [.lit (.int .u32 (x.s : Nat))] (.own [33]) hl (by decide) rfl
    simp only [go_sem,f1,decide_true,Int.natCast_nonneg,Int.toNat_natCast,List.getElem?_map,hx,Option.map_some,rowAgg,avSource,avU,ea,hw]
    exact ⟨m - 1,by omega,i + 1,_,by omega,fin,rfl⟩
  ·have f1 : ((i : Int) < (w.scs.length : Int)) = False:= eq_false (by omega)
   have e : sA w i = mA w 0:= by
    simp only [sA,mA]
    rw [List.take_of_length_le (by omega)]
    simp
   rw [e] at hra
   simp only [go_sem,f1,netV,List.length_map,decide_false]
   refine aw_loop (fun m E => ∃ (i : Nat) (v : AV),i + m = w.mbs.length ∧ RowA (mA w i) v ∧ E = mkE [(0,.rp (topoV w)),(3,.rp (netV w)),(4,v),(39,.sl .none 4 (w.mbs.map avMb)),(40,.lit (.int .i64 (w.mbs.length : Nat))),(41,.lit (.int .i64 (i : Nat)))] []) w.mbs.length ?_ ?_
   ·exact ⟨0,v,by omega,hra,rfl⟩
   ·rintro m _ ⟨i,v,him,hra,rfl⟩
    by_cases hil : i < w.mbs.length
    ·have f1 : ((i : Int) < (w.mbs.length : Int)) = True:= eq_true (by omega)
     have hw:= wrap_succ i (by omega)
     obtain ⟨x,hx⟩ : ∃ x,w.mbs[i]? = some x:= ⟨w.mbs[i],List.getElem?_eq_getElem hil⟩
     have hxf:= (memOK hv hx).few
     have e1 : mA w (i + 1) = mA w i ++ x.src:= by
      simp only [mA]
      rw [List.take_add_one,hx,Option.toList_some,List.flatMap_append,List.append_assoc]
      simp
     have e2 : (mA w (i + 1)).map avU = (mA w i).map avU ++ x.src.map avU:= by rw [e1,List.map_append]
     have hml:= flat_take_le (fun x : NM => x.src) w.mbs i
     have hl : ((mA w i).map avU).length + (x.src.map avU).length ≤ 4294967296:= by
      simp only [mA,List.length_map,List.length_append]
      omega
     have fin:= RowA.mk (.inr (.inl rfl) : ((48 : Nat) = 34 ∨ (48 : Nat) = 48 ∨ (48 : Nat) = 63)) (mA w (i + 1))
     rw [e2] at fin
     rcases hra with ⟨e0,rfl⟩ | ⟨t,ht,rfl⟩
     ·rw [e0] at fin
      have ea : ∀ s c,avApp 1 4 [] 48 s c (.sl .nil 0 []) (.sl .none 1 (x.src.map avU)) = _:= fun s c => avApp_nil (d:= 48) (s:= s) (c:= c) 1 4 0 [] [] (x.src.map avU) .none (by simp; omega) (by decide)
      simp only [go_sem,f1,decide_true,Int.natCast_nonneg,Int.toNat_natCast,List.getElem?_map,hx,Option.map_some,rowAgg,avMb,avU,ea,hw]
      exact ⟨m - 1,by omega,i + 1,_,by omega,fin,rfl⟩
     ·have ea : ∀ s c,avApp 1 4 [] 48 s c (.sl (.own [t]) 1 ((mA w i).map avU)) (.sl .none 1 (x.src.map avU)) = _:= fun s c => avApp_own (d:= 48) (s:= s) (c:= c) 1 4 [] [t] ((mA w i).map avU) (x.src.map avU) .none hl (by decide) rfl
      simp only [go_sem,f1,decide_true,Int.natCast_nonneg,Int.toNat_natCast,List.getElem?_map,hx,Option.map_some,rowAgg,avMb,avU,ea,hw]
      exact ⟨m - 1,by omega,i + 1,_,by omega,fin,rfl⟩
    ·have f1 : ((i : Int) < (w.mbs.length : Int)) = False:= eq_false (by omega)
     have e : mA w i = gA w 0:= by
      simp only [mA,gA]
      rw [List.take_of_length_le (by omega)]
      simp
     rw [e] at hra
     simp only [go_sem,f1,netV,List.length_map,decide_false]
     refine aw_loop (fun m E => ∃ (i : Nat) (v : AV),i + m = w.rgs.length ∧ RowA (gA w i) v ∧ E = mkE [(0,.rp (topoV w)),(3,.rp (netV w)),(4,v),(53,.sl .none 3 (w.rgs.map avRange)),(54,.lit (.int .i64 (w.rgs.length : Nat))),(55,.lit (.int .i64 (i : Nat)))] []) w.rgs.length ?_ ?_
     ·exact ⟨0,v,by omega,hra,rfl⟩
     ·rintro m _ ⟨i,v,him,hra,rfl⟩
      by_cases hil : i < w.rgs.length
      ·have f1 : ((i : Int) < (w.rgs.length : Int)) = True:= eq_true (by omega)
       have hw:= wrap_succ i (by omega)
       obtain ⟨x,hx⟩ : ∃ x,w.rgs[i]? = some x:= ⟨w.rgs[i],List.getElem?_eq_getElem hil⟩
       have e1 : gA w (i + 1) = gA w i ++ [x.root]:= by
        simp only [gA]
        rw [take_snoc_map (fun x : NRg => x.root) hx]
        simp
       have e2 : (gA w (i + 1)).map avU = (gA w i).map avU ++ [.lit (.int .u32 (x.root : Nat))]:= by rw [e1,List.map_append]; rfl
       have hl : ((gA w i).map avU).length + [AV.lit (.int .u32 (x.root : Nat))].length ≤ 4294967296:= by
        simp only [gA,List.length_map,List.length_append,List.length_take,List.length_singleton]
        omega
       have fin:= RowA.mk (.inr (.inr rfl) : ((63 : Nat) = 34 ∨ (63 : Nat) = 48 ∨ (63 : Nat) = 63)) (gA w (i + 1))
       rw [e2] at fin
       rcases hra with ⟨e0,rfl⟩ | ⟨t,ht,rfl⟩
       ·rw [e0] at fin
        have ea : ∀ s c,avApp 1 4 [] 63 s c (.sl .nil 0 []) (.sl (.own [62]) 1 [.lit (.int .u32 (x.root : Nat))]) = _:= fun s c => avApp_nil (d:= 63) (s:= s) (c:= c) 1 4 0 [] [] [.lit (.int .u32 (x.root : Nat))] (.own [62]) (by simp) (by decide)
        simp only [go_sem,f1,decide_true,Int.natCast_nonneg,Int.toNat_natCast,List.getElem?_map,hx,Option.map_some,rowAgg,avRange,avU,ea,hw]
        exact ⟨m - 1,by omega,i + 1,_,by omega,fin,rfl⟩
       ·have ea : ∀ s c,avApp 1 4 [] 63 s c (.sl (.own [t]) 1 ((gA w i).map avU)) (.sl (.own [62]) 1 [.lit (.int .u32 (x.root : Nat))]) = _:= fun s c => avApp_own (d:= 63) (s:= s) (c:= c) 1 4 [] [t] ((gA w i).map avU) [.lit (.int .u32 (x.root : Nat))] (.own [62]) hl (by decide) rfl
        simp only [go_sem,f1,decide_true,Int.natCast_nonneg,Int.toNat_natCast,List.getElem?_map,hx,Option.map_some,rowAgg,avRange,avU,ea,hw]
        exact ⟨m - 1,by omega,i + 1,_,by omega,fin,rfl⟩
      ·have f1 : ((i : Int) < (w.rgs.length : Int)) = False:= eq_false (by omega)
       have e : gA w i = adsW w:= by
        simp only [gA,adsW]
        rw [List.take_of_length_le (by omega)]
       rw [e] at hra
       have hlt:= ads_lt h
       have hal : (adsW w).length ≤ 1000:= by
        simp only [adsW,List.length_map,List.length_append]
        omega
       have hRW : roundW w = (List.range w.rts.length).any fun r => (adsW w).any fun a => roundAt w r a:= rfl
       generalize adsW w = L at *
       simp only [go_sem,f1,netV,List.length_map,decide_false]
       refine aw_loop (fun m E => ∃ r : Nat,r + m = w.rts.length ∧ ((List.range w.rts.length).take r).any (fun r => L.any fun a => roundAt w r a) = false ∧ E = mkE [(0,.rp (topoV w)),(4,v),(69,.lit (.int .i64 (w.rts.length : Nat))),(70,.lit (.int .i64 (r : Nat)))] []) w.rts.length ?_ ?_
       ·exact ⟨0,by omega,by simp,rfl⟩
       ·rintro m _ ⟨r,hrm,hno,rfl⟩
        by_cases hrl : r < w.rts.length
        ·have f1 : ((r : Int) < (w.rts.length : Int)) = True:= eq_true (by omega)
         have hwr:= wrap_succ r (by omega)
         have hrr : (List.range w.rts.length)[r]? = some r:= by simp [hrl]
         rcases hra with ⟨e0,rfl⟩ | ⟨t,ht,rfl⟩
         ·subst e0
          have f0 : ((0 : Int) < ((0 : Nat) : Int)) = False:= eq_false (by omega)
          simp only [go_sem,f1,decide_true,List.length_nil]
          refine aw_loop (fun m E => E = mkE [(0,.rp (topoV w)),(4,.sl .nil 0 []),(11,.lit (.int .i64 (r : Nat))),(69,.lit (.int .i64 (w.rts.length : Nat))),(70,.lit (.int .i64 (r : Nat))),(73,.sl .nil 0 []),(74,.lit (.int .i64 ((0 : Nat) : Int))),(75,.lit (.int .i64 0))] []) 0 rfl ?_
          rintro m' _ rfl
          simp only [go_sem,f0,decide_false,hwr]
          exact ⟨m - 1,by omega,r + 1,by omega,any_false_take hno hrr rfl,rfl⟩
         ·simp only [go_sem,f1,decide_true,List.length_map]
          refine aw_loop (fun m E => ∃ k : Nat,k + m = L.length ∧ (L.take k).any (fun a => roundAt w r a) = false ∧ E = mkE [(0,.rp (topoV w)),(4,.sl (.own [t]) 1 (L.map avU)),(11,.lit (.int .i64 (r : Nat))),(69,.lit (.int .i64 (w.rts.length : Nat))),(70,.lit (.int .i64 (r : Nat))),(73,.sl (.own [t]) 1 (L.map avU)),(74,.lit (.int .i64 (L.length : Nat))),(75,.lit (.int .i64 (k : Nat)))] []) L.length ?_ ?_
          ·exact ⟨0,by omega,by simp,rfl⟩
          ·rintro m' _ ⟨k,hk,hnk,rfl⟩
           have hrI:= fun x => avRow_some 1 (.own [t]) (AV.lit x) rfl
           by_cases hkl : k < L.length
           ·have q1 : ((k : Int) < (L.length : Int)) = True:= eq_true (by omega)
            have hwk:= wrap_succ k (by omega)
            obtain ⟨a,ha⟩ : ∃ a,L[k]? = some a:= ⟨L[k],List.getElem?_eq_getElem hkl⟩
            have hal':= hlt a (List.mem_of_getElem? ha)
            have hTo:= C_To w h hf hv (r : Int) a hal'
            have hCh:= C_Chain w h hf hv (r : Int) ⟨by omega,by omega⟩ a hal'
            rw [toV_eq] at hTo
            simp only [avU] at hTo hCh
            have hat : roundAt w r a = ((toN w (r : Int) a).isSome && (chainW w (r : Int) a).isNone):= rfl
            simp only [go_sem,q1,decide_true,Int.natCast_nonneg,Int.toNat_natCast,List.getElem?_map,ha,hrI,Option.map_some,avU]
            refine callX_of hTo ?_
            cases hto : (toN w (r : Int) a).isSome
            ·rw [hto] at hat
             simp only [go_sem,hopC_retag,hopC_one,hopC_len,Nat.le_refl,hwk]
             exact ⟨m' - 1,by omega,k + 1,by omega,any_false_take hnk ha hat,rfl⟩
            ·rw [hto] at hat
             simp only [go_sem,hopC_retag,hopC_one,hopC_len,Nat.le_refl]
             refine callX_of hCh ?_
             cases hch : chainW w (r : Int) a with
             | none =>
              rw [hch] at hat
              have hRt : roundW w = true:= by
               rw [hRW]
               refine List.any_eq_true.2 ⟨r,List.mem_of_getElem? hrr,List.any_eq_true.2 ⟨a,List.mem_of_getElem? ha,hat⟩⟩
              rw [hRt]
              simp only [go_sem,chainV]
             | some q =>
              rw [hch] at hat
              simp only [go_sem,chainV,hwk]
              exact ⟨m' - 1,by omega,k + 1,by omega,any_false_take hnk ha hat,rfl⟩
           ·have q1 : ((k : Int) < (L.length : Int)) = False:= eq_false (by omega)
            have hLk : L.any (fun a => roundAt w r a) = false:= by
             rw [List.take_of_length_le (by omega)] at hnk
             exact hnk
            simp only [go_sem,q1,decide_false,hwr]
            exact ⟨m - 1,by omega,r + 1,by omega,any_false_take hno hrr hLk,rfl⟩
        ·have f1 : ((r : Int) < (w.rts.length : Int)) = False:= eq_false (by omega)
         have hRt : roundW w = false:= by
          rw [hRW,← hno]
          rw [List.take_of_length_le (by simp; omega)]
         rw [hRt]
         simp only [go_sem,f1,decide_false]
theorem line_v20' : vNet (lineW 2 0) = none:= by decide +kernel
theorem line_ok20' : (lineW 2 0).OK:= by
 constructor <;> decide +kernel
theorem line_t20 : toN (lineW 2 0) 0 (addrL 0 1) = some ⟨-1,-1,0,true⟩:= by decide +kernel
theorem line_r20 : roundW (lineW 2 0) = false:= by decide +kernel
theorem C_first11 : AC Tryz.prog f_q8 [] (.lit (.bool true)):= by
 refine ac_q8 ?_ (Nat.zero_le _)
 have hL:= C_To (lineW 2 0) line_ok20' (vfit line_v20') line_v20' 0 (addrL 0 1) (by decide)
 rw [line_t20] at hL
 have hR:= C_Round (lineW 2 0) line_ok20' (vfit line_v20') line_v20'
 rw [line_r20] at hR
 have k1 : ((-1 : Int) == -1) = true:= rfl
 simp only [go_sem,c_q8]
 refine callX_of (C_Line 2 0 (by decide) (by decide) (by decide)) ?_
 simp only [go_sem,low_net,one_net,len_net,take_net,Nat.le_refl]
 refine callX_of (C_New (lineW 2 0) line_ok20' (vfit line_v20') line_v20') ?_
 simp only [go_sem]
 refine callX_of (C_nAddr 0 1 (by decide) (by decide)) ?_
 simp only [go_sem]
 refine callX_of hL ?_
 simp only [go_sem,toV,hopV,k1]
 refine callX_of hR ?_
 simp only [go_sem]
end Go.Proofs.YtjceingdmfogeaaGreatDoor.VL
end

section
set_option maxHeartbeats 4000000
namespace Go.Proofs.YtjceingdmfogeaaGreatDoor.VL
open Go.RowKit Go.Proofs
def rgW (n : Nat) (s : Bool) : NW:= ⟨(List.range n).map fun i => ⟨nameN 114 i,0⟩,[linkL 0,linkL 1],(List.range n).map fun i : Nat => portL i 0,(List.range n).map fun i : Nat => ⟨(i : Int),addrL 1 0,24,addrL 0 ((i + 1) % n + 1),0⟩,[],if s then [⟨1,addrL 1 200,3758161921⟩] else [],[]⟩
def rgB (n r : Nat) (s : Bool) : Bool:= (vNet (rgW (n + 2) s)).isNone && (chainW (rgW (n + 2) s) r (addrL 1 200)).isNone && decide ((toN (rgW (n + 2) s) r (addrL 1 200)).isSome = true) && (match toN (rgW (n + 2) s) r (addrL 1 200) with | some h => decide (h.inP = (r : Int)) && decide (h.up = (((r + 1) % (n + 2) : Nat) : Int)) | none => false) && (roundW (rgW (n + 2) s) == s)
theorem rg_all : ∀ n,n < 5 → ∀ r,r < n + 2 → rgB n r true = true ∧ rgB n r false = true:= by decide +kernel
theorem rg_ok (n : Nat) (h : n < 5) (s : Bool) : (rgW (n + 2) s).OK:= by
 have : n = 0 ∨ n = 1 ∨ n = 2 ∨ n = 3 ∨ n = 4:= by omega
 cases s <;> rcases this with rfl | rfl | rfl | rfl | rfl <;> (constructor <;> decide +kernel)
end Go.Proofs.YtjceingdmfogeaaGreatDoor.VL
end

section
set_option maxHeartbeats 4000000
namespace Go.Proofs.YtjceingdmfogeaaGreatDoor.VL
open Go.RowKit Go.Proofs
theorem bits_addrG : ∀ l,l < 100 → ∀ n,n < 256 → (bits .or .u32 (bits .or .u32 167772160 (IntKind.wrap .u32 (IntKind.wrap .u32 ((l : Nat) : Int) * 2 ^ 8))) (IntKind.wrap .u32 ((n : Nat) : Int)) == ((addrL l n : Nat) : Int)) = true:= by decide +kernel
theorem C_nAddrG (l n : Nat) (hl : l < 100) (hn : n < 256) : AC Tryz.prog f_q11 [avI l,avI n] (avU (addrL l n)):= by
 refine ac_q11 ?_ (Nat.le_add_left 2 _)
 simp only [go_sem,c_q11,avI,avU,avBin_shl 37 .u32 .u64 _ 8 (by decide) (by decide),eq_of_beq (bits_addrG l hl n hn)]
end Go.Proofs.YtjceingdmfogeaaGreatDoor.VL
end

section
set_option maxHeartbeats 4000000
namespace Go.Proofs.YtjceingdmfogeaaGreatDoor.VL
open Go.RowKit Go.Proofs
def tkS (n : Nat) : Nat:= if n = 0 then 7 else 20
theorem C_rSources (l : List NSc) (hl : l.length ≤ 1000) : AC Tryz.prog f_q27 [.sl .none 3 (l.map avSource)] (.sl (.own [tkS l.length]) 3 (l.map avSource)):= by
 refine ac_q27 ?_ (Nat.le_add_left 1 _)
 have m1 : ∀ s c,mkoM (d:= 7) (s:= s) (c:= c) 3 16 (.lit (.int .i64 (l.length : Nat))) = some (mkE (putA s 7 (.sl (.own [7]) 3 [])) c):= fun s c => mkoM_l (d:= 7) (s:= s) (c:= c) 3 16 .i64 _ (by omega) (by omega) (by decide)
 simp only [go_sem,c_q27,List.length_map,m1]
 refine aw_loop (fun m E => ∃ i : Nat,i + m = l.length ∧ E = mkE [(0,.sl .none 3 (l.map avSource)),(3,.sl (.own [tkS i]) 3 ((l.take i).map avSource)),(4,.lit (.int .i64 (i : Nat)))] []) l.length ?_ ?_
 ·exact ⟨0,by omega,by simp only [go_sem,List.take_zero,List.map_nil,tkS]; rfl⟩
 ·rintro m _ ⟨i,him,rfl⟩
  by_cases hi : i < l.length
  ·have f1 : ((i : Int) < (l.length : Int)) = True:= eq_true (by omega)
   have w1:= wrap_succ i (by omega)
   obtain ⟨x,hx⟩ : ∃ x,l[i]? = some x:= ⟨l[i],List.getElem?_eq_getElem hi⟩
   have hr:= fun cs => avRow_some 3 .none (AV.agg cs) rfl
   have e1 : (l.take (i + 1)).map avSource = (l.take i).map avSource ++ [avSource x]:= by
    rw [List.take_add_one,hx,Option.toList_some,List.map_append]
    rfl
   have hlen : ((l.take i).map avSource).length ≤ 1000:= by rw [List.length_map,List.length_take]; omega
   have e2 : tkS (i + 1) = 20:= if_neg (by omega)
   have ek : tkS i = 7 ∨ tkS i = 20:= by unfold tkS; split <;> simp
   generalize (l.take i).map avSource = R at *
   generalize tkS i = k at *
   have ea : ∀ s c x,avApp 3 16 [] 20 s c (.sl (.own [k]) 3 R) (.sl (.own [19]) 3 [AV.agg x]) = _:= fun s c x => avApp_own (d:= 20) (s:= s) (c:= c) 3 16 [] [k] R [AV.agg x] (.own [19]) (by simp; omega) (by decide) rfl
   rcases ek with rfl | rfl
   all_goals
    simp only [go_sem,List.length_map,f1,decide_true,Int.natCast_nonneg,Int.toNat_natCast,List.getElem?_map,hx,Option.map_some,hr,avSource,avU,ea,w1]
    exact ⟨m - 1,by omega,i + 1,by omega,by rw [e1,e2]; rfl⟩
  ·have f1 : ((i : Int) < (l.length : Int)) = False:= eq_false (by omega)
   have ei : i = l.length:= by omega
   subst ei
   simp only [go_sem,List.length_map,f1,decide_false,List.take_length]
theorem bits_group1 : ∀ n,n < 10 → bits .or .u32 3758161920 (IntKind.wrap .u32 ((n : Nat) : Int)) = ((3758161920 + n : Nat) : Int):= by decide +kernel
theorem C_nGroup1 (n : Nat) (hn : n < 10) : AC Tryz.prog f_q28 [avI n] (avU (3758161920 + n)):= by
 refine ac_q28 ?_ (Nat.le_add_left 1 _)
 simp only [go_sem,c_q28,avI,avU,bits_group1 n hn]
def sent (w : NW) (lk g : Nat) : NW:= { w with scs:= w.scs ++ [⟨lk,addrL lk (200 + w.scs.length),3758161920 + g⟩] }
theorem sent_net (w : NW) (lk g : Nat) : netV (sent w lk g) = [.sl .none 2 (w.rts.map avRouter),.sl .none 3 (w.lks.map avLink),.sl .none 3 (w.pts.map avPort),.sl .none 5 (w.ros.map avRoute),.sl .none 3 (w.rgs.map avRange),.sl .none 3 (w.scs.map avSource ++ [.agg [.lit (.int .i64 (lk : Nat)),avU (addrL lk (200 + w.scs.length)),avU (3758161920 + g)]]),.sl .none 4 (w.mbs.map avMb)]:= by
 simp only [netV,sent,List.map_append,List.map_cons,List.map_nil]
 rfl
theorem C_nSend (w : NW) (lk g : Nat) (hlk : lk < 10) (hg : g < 10) (hs : w.scs.length < 50) : AC Tryz.prog f_q12 [.agg (netV w),.lit (.int .i64 (lk : Nat)),.lit (.int .i64 (g : Nat))] (.agg (netV (sent w lk g))):= by
 refine AC_weak (r:= .agg [.sl .none 2 (w.rts.map avRouter),.sl .none 3 (w.lks.map avLink),.sl .none 3 (w.pts.map avPort),.sl .none 5 (w.ros.map avRoute),.sl .none 3 (w.rgs.map avRange),.sl (.own [22]) 3 (w.scs.map avSource ++ [.agg [.lit (.int .i64 (lk : Nat)),avU (addrL lk (200 + w.scs.length)),avU (3758161920 + g)]]),.sl .none 4 (w.mbs.map avMb)]) ?_ (by
  rw [sent_net]
  exact wk_agg ⟨Wk.rfl _,Wk.rfl _,Wk.rfl _,Wk.rfl _,Wk.rfl _,wk_own _ _ _,Wk.rfl _,trivial⟩)
 refine ac_q12 ?_ (Nat.le_add_left 3 _) rfl
 have hS:= C_rSources w.scs (by omega)
 have w1 : IntKind.i64.wrap (200 + (w.scs.length : Int)) = ((200 + w.scs.length : Nat) : Int):= by
  rw [show 200 + (w.scs.length : Int) = ((200 + w.scs.length : Nat) : Int) by omega]
  exact wrap_nat (200 + w.scs.length) (by omega)
 have hA:= C_nAddrG lk (200 + w.scs.length) (by omega) (by omega)
 have hG:= C_nGroup1 g hg
 have hlen : (w.scs.map avSource).length = w.scs.length:= by simp
 simp only [avI,avU] at hA hG
 simp only [go_sem,c_q12,netV]
 generalize w.rts.map avRouter = A1 at *
 generalize w.lks.map avLink = A2 at *
 generalize w.pts.map avPort = A3 at *
 generalize w.ros.map avRoute = A4 at *
 generalize w.rgs.map avRange = A5 at *
 generalize w.mbs.map avMb = A7 at *
 refine callX_of hS ?_
 generalize w.scs.map avSource = R at *
 generalize tkS w.scs.length = k at *
 have ea : ∀ s c x,avApp 3 16 [] 22 s c (.sl (.own [9,k]) 3 R) (.sl (.own [21]) 3 [AV.agg x]) = _:= fun s c x => avApp_own (d:= 22) (s:= s) (c:= c) 3 16 [] [9,k] R [AV.agg x] (.own [21]) (by simp; omega) (by decide) rfl
 have eb : ∀ s c x,avApp 3 16 [21] 22 s c (.sl (.own [9,k]) 3 R) (.sl (.own [21]) 3 [AV.agg x]) = _:= fun s c x => avApp_own (d:= 22) (s:= s) (c:= c) 3 16 [21] [9,k] R [AV.agg x] (.own [21]) (by simp; omega) (by decide) (by simp [okBs])
 simp only [go_sem,hlen,w1]
 refine callX_of hA ?_
 simp only [go_sem]
 refine callX_of hG ?_
 simp only [go_sem,ea,eb,avU]
end Go.Proofs.YtjceingdmfogeaaGreatDoor.VL
end

section
set_option maxHeartbeats 4000000
namespace Go.Proofs.YtjceingdmfogeaaGreatDoor.VL
open Go.RowKit Go.Proofs
def rgR (k : Nat) : List NRt:= (List.range k).map fun i => ⟨nameN 114 i,0⟩
def rgP (k : Nat) : List NPt:= (List.range k).map fun i : Nat => portL i 0
def rgO (n k : Nat) : List NRo:= (List.range k).map fun i : Nat => ⟨(i : Int),addrL 1 0,24,addrL 0 ((i + 1) % n + 1),0⟩
theorem rgR_succ (k : Nat) : (rgR (k + 1)).map avRouter = (rgR k).map avRouter ++ [.agg [.lit (.string (nameN 114 k)),.lit (.int .i64 0)]]:= by simp [rgR,List.range_succ,avRouter,avStr]
theorem rgP_succ (k : Nat) : (rgP (k + 1)).map avPort = (rgP k).map avPort ++ [avPort (portL k 0)]:= by simp [rgP,List.range_succ]
theorem rgO_succ (n k : Nat) : (rgO n (k + 1)).map avRoute = (rgO n k).map avRoute ++ [.agg [.lit (.int .i64 (k : Nat)),.lit (.int .u32 ((addrL 1 0 : Nat) : Int)),.lit (.int .i64 24),.lit (.int .u32 ((addrL 0 ((k + 1) % n + 1) : Nat) : Int)),.lit (.int .i64 0)]]:= by simp [rgO,List.range_succ,avRoute,avU]
theorem rgR_len (k : Nat) : (rgR k).length = k:= by simp [rgR]
theorem rgP_len (k : Nat) : (rgP k).length = k:= by simp [rgP]
theorem rgO_len (n k : Nat) : (rgO n k).length = k:= by simp [rgO]
theorem rg_net1 (n : Nat) : netV (rgW n true) = [.sl .none 2 ((rgR n).map avRouter),.sl .none 3 [.agg [.lit (.string (nameN 108 0)),.lit (.int .u32 ((addrL 0 0 : Nat) : Int)),.lit (.int .i64 24)],.agg [.lit (.string (nameN 108 1)),.lit (.int .u32 ((addrL 1 0 : Nat) : Int)),.lit (.int .i64 24)]],.sl .none 3 ((rgP n).map avPort),.sl .none 5 ((rgO n n).map avRoute),.sl .none 3 [],.sl .none 3 [.agg [.lit (.int .i64 1),.lit (.int .u32 ((addrL 1 200 : Nat) : Int)),.lit (.int .u32 3758161921)]],.sl .none 4 []]:= rfl
theorem rg_sent (n : Nat) : rgW n true = sent (rgW n false) 1 1:= rfl
theorem C_RpfRings (a b : Int) (s : Bool) : AC Tryz.prog f_q1 [.lit (.int .i64 a),.lit (.int .i64 b),.lit (.bool s)] (.lit (.bool true)):= by
 refine ac_q1 ?_ (Nat.le_add_left 3 _)
 simp only [go_sem,c_q1]
 refine callX_of C_first11 ?_
 simp only [go_sem]
 refine callX_of (C_Number a 5 (by decide) (by decide)) ?_
 obtain ⟨n,hn,hn5⟩ : ∃ n : Nat,a % 5 = (n : Int) ∧ n < 5:= ⟨(a % 5).toNat,by omega,by omega⟩
 have hw : IntKind.i64.wrap ((n : Int) + 2) = ((n + 2 : Nat) : Int):= wrap_nat (n + 2) (by omega)
 rw [hn]
 obtain ⟨r,hr,hrn⟩ : ∃ r : Nat,b % ((n + 2 : Nat) : Int) = (r : Int) ∧ r < n + 2:= by
  have h1:= Int.emod_nonneg b (show ((n + 2 : Nat) : Int) ≠ 0 by omega)
  have h2:= Int.emod_lt_of_pos b (show (0 : Int) < ((n + 2 : Nat) : Int) by omega)
  exact ⟨(b % ((n + 2 : Nat) : Int)).toNat,by omega,by omega⟩
 have hok:= fun s => rg_ok n hn5 s
 obtain ⟨bt,bf⟩:= rg_all n hn5 r hrn
 have hb : ∀ s,rgB n r s = true:= fun s => by cases s; exact bf; exact bt
 have hv : ∀ s,vNet (rgW (n + 2) s) = none:= fun s => by
  have:= hb s
  simp only [rgB,Bool.and_eq_true,Option.isNone_iff_eq_none] at this
  exact this.1.1.1.1
 have hN:= fun s => C_New (rgW (n + 2) s) (hok s) (vfit (hv s)) (hv s)
 have hCh:= fun s => C_Chain (rgW (n + 2) s) (hok s) (vfit (hv s)) (hv s) (r : Int) ⟨by omega,by
  have : (rgW (n + 2) s).rts.length = n + 2:= by simp [rgW]
  omega⟩ (addrL 1 200) (by decide)
 have hTo:= fun s => C_To (rgW (n + 2) s) (hok s) (vfit (hv s)) (hv s) (r : Int) (addrL 1 200) (by decide)
 have hRo:= fun s => C_Round (rgW (n + 2) s) (hok s) (vfit (hv s)) (hv s)
 have hch : ∀ s,chainW (rgW (n + 2) s) (r : Int) (addrL 1 200) = none:= fun s => by
  have:= hb s
  simp only [rgB,Bool.and_eq_true,Option.isNone_iff_eq_none] at this
  exact this.1.1.1.2
 have hro : ∀ s,roundW (rgW (n + 2) s) = s:= fun s => by
  have:= hb s
  simp only [rgB,Bool.and_eq_true,beq_iff_eq] at this
  exact this.2
 have hto : ∀ s,∃ h,toN (rgW (n + 2) s) (r : Int) (addrL 1 200) = some h ∧ h.inP = (r : Int) ∧ h.up = (((r + 1) % (n + 2) : Nat) : Int):= fun s => by
  have:= hb s
  simp only [rgB,Bool.and_eq_true] at this
  have h1:= this.1.2
  cases hq : toN (rgW (n + 2) s) (r : Int) (addrL 1 200) with
  | none => rw [hq] at h1; cases h1
  | some h =>
   rw [hq] at h1
   simp only [Bool.and_eq_true,decide_eq_true_eq] at h1
   exact ⟨h,rfl,h1⟩
 have hA:= C_nAddrG 1 200 (by decide) (by decide)
 have hL0:= C_nLink 0 (by decide)
 have hL1:= C_nLink 1 (by decide)
 have hSd:= C_nSend (rgW (n + 2) false) 1 1 (by decide) (by decide) (by simp [rgW])
 rw [← rg_sent,rg_net1] at hSd
 simp only [avI,avU] at hA
 have z1 : avI 0 = .lit (.int .i64 ((0 : Nat) : Int)):= rfl
 have z2 : avI 1 = .lit (.int .i64 ((1 : Nat) : Int)):= rfl
 rw [z1] at hL0
 rw [z2] at hL1
 have hK : ∀ i,avLink (linkL i) = .agg [.lit (.string (nameN 108 i)),.lit (.int .u32 ((addrL i 0 : Nat) : Int)),.lit (.int .i64 24)]:= fun i => rfl
 rw [hK] at hL0 hL1
 simp only [Int.natCast_zero,Int.natCast_one] at hL0 hL1 hSd
 simp only [go_sem,hw]
 refine callX_of (C_Number b ((n + 2 : Nat) : Int) (by omega) (by omega)) ?_
 rw [hr]
 simp only [go_sem]
 refine callX_of hL0 ?_
 simp only [go_sem]
 refine callX_of hL1 ?_
 simp only [go_sem]
 refine aw_loop (fun m E => ∃ i : Nat,i + m = n + 2 ∧ E = mkE [(0,.lit (.int .i64 ((n + 2 : Nat) : Int))),(1,.lit (.int .i64 (r : Nat))),(2,.lit (.bool s)),(8,.lp 8 0),(9,.lit (.int .i64 (i : Nat)))] [(8,[rowO [42] 2 ((rgR i).map avRouter),.sl (.own [28]) 3 [.agg [.lit (.string (nameN 108 0)),.lit (.int .u32 ((addrL 0 0 : Nat) : Int)),.lit (.int .i64 24)],.agg [.lit (.string (nameN 108 1)),.lit (.int .u32 ((addrL 1 0 : Nat) : Int)),.lit (.int .i64 24)]],rowO [49] 3 ((rgP i).map avPort),.sl .nil 0 [],.sl .nil 0 [],.sl .nil 0 [],.sl .nil 0 []])]) (n + 2) ?_ ?_
 ·exact ⟨0,by omega,rfl⟩
 ·rintro m _ ⟨i,him,rfl⟩
  by_cases hi : i < n + 2
  ·have f1 : ((i : Int) < ((n + 2 : Nat) : Int)) = True:= eq_true (by omega)
   have w1:= wrap_succ i (by omega)
   have hNum:= C_Num1 i (by omega)
   have hP:= C_nPort i 0 (by omega) (by decide)
   have nm:= fun t => avBin_name t 114 i
   have e1:= rgR_succ i
   have e2:= rgP_succ i
   have l1 : ((rgR i).map avRouter).length ≤ 1000:= by rw [List.length_map,rgR_len]; omega
   have l2 : ((rgP i).map avPort).length ≤ 1000:= by rw [List.length_map,rgP_len]; omega
   have l3 : (rgR i).map avRouter = [] ↔ (rgP i).map avPort = []:= by
    rw [← List.length_eq_zero_iff,← List.length_eq_zero_iff,List.length_map,List.length_map,rgR_len,rgP_len]
   simp only [avPort,portL,avI,avU,Int.natCast_zero] at hP e2
   generalize (rgR i).map avRouter = R at *
   generalize (rgP i).map avPort = Q at *
   cases R with
   | nil =>
    obtain rfl : Q = []:= l3.1 rfl
    have ea : ∀ s c x,avApp 2 24 [] 42 s c (.sl .nil 0 []) (.sl (.own [41]) 2 [AV.agg x]) = _:= fun s c x => avApp_nil (d:= 42) (s:= s) (c:= c) 2 24 0 [] [] [AV.agg x] (.own [41]) (by simp) (by decide)
    have eb : ∀ s c x,avApp 3 24 [] 49 s c (.sl .nil 0 []) (.sl (.own [48]) 3 [AV.agg x]) = _:= fun s c x => avApp_nil (d:= 49) (s:= s) (c:= c) 3 24 0 [] [] [AV.agg x] (.own [48]) (by simp) (by decide)
    simp only [go_sem,f1,decide_true,rowO_nil]
    refine callX_of hNum ?_
    simp only [go_sem,nm,ea,rowO_nil]
    refine callX_of hP ?_
    simp only [go_sem,eb,w1,rowO_nil]
    exact ⟨m - 1,by omega,i + 1,by omega,by rw [e1,e2]; rfl⟩
   | cons z zs =>
    cases Q with
    | nil => exact absurd (l3.2 rfl) (by simp)
    | cons y ys =>
    have ea : ∀ s c x,avApp 2 24 [] 42 s c (.sl (.own [42]) 2 (z :: zs)) (.sl (.own [41]) 2 [AV.agg x]) = _:= fun s c x => avApp_own (d:= 42) (s:= s) (c:= c) 2 24 [] [42] (z :: zs) [AV.agg x] (.own [41]) (by simp at l1 ⊢; omega) (by decide) rfl
    have eb : ∀ s c x,avApp 3 24 [] 49 s c (.sl (.own [49]) 3 (y :: ys)) (.sl (.own [48]) 3 [AV.agg x]) = _:= fun s c x => avApp_own (d:= 49) (s:= s) (c:= c) 3 24 [] [49] (y :: ys) [AV.agg x] (.own [48]) (by simp at l2 ⊢; omega) (by decide) rfl
    simp only [go_sem,f1,decide_true,rowO_cons]
    refine callX_of hNum ?_
    simp only [go_sem,nm,ea,rowO_cons]
    refine callX_of hP ?_
    simp only [go_sem,eb,w1,rowO_cons]
    exact ⟨m - 1,by omega,i + 1,by omega,by rw [e1,e2]; rfl⟩
  ·have f1 : ((i : Int) < ((n + 2 : Nat) : Int)) = False:= eq_false (by omega)
   have ei : i = n + 2:= by omega
   subst ei
   have en1 : rowO [42] 2 ((rgR (n + 2)).map avRouter) = .sl (.own [42]) 2 ((rgR (n + 2)).map avRouter):= rowO_ne (by
    intro e
    have:= congrArg List.length e
    rw [List.length_map,rgR_len] at this
    simp at this)
   have en2 : rowO [49] 3 ((rgP (n + 2)).map avPort) = .sl (.own [49]) 3 ((rgP (n + 2)).map avPort):= rowO_ne (by
    intro e
    have:= congrArg List.length e
    rw [List.length_map,rgP_len] at this
    simp at this)
   rw [en1,en2]
   simp only [go_sem,f1,decide_false]
   refine aw_loop (fun m E => ∃ i : Nat,i + m = n + 2 ∧ E = mkE [(0,.lit (.int .i64 ((n + 2 : Nat) : Int))),(1,.lit (.int .i64 (r : Nat))),(2,.lit (.bool s)),(8,.lp 8 0),(10,.lit (.int .i64 (i : Nat)))] [(8,[.sl (.own [42]) 2 ((rgR (n + 2)).map avRouter),.sl (.own [28]) 3 [.agg [.lit (.string (nameN 108 0)),.lit (.int .u32 ((addrL 0 0 : Nat) : Int)),.lit (.int .i64 24)],.agg [.lit (.string (nameN 108 1)),.lit (.int .u32 ((addrL 1 0 : Nat) : Int)),.lit (.int .i64 24)]],.sl (.own [49]) 3 ((rgP (n + 2)).map avPort),rowO [69] 5 ((rgO (n + 2) i).map avRoute),.sl .nil 0 [],.sl .nil 0 [],.sl .nil 0 []])]) (n + 2) ?_ ?_
   ·exact ⟨0,by omega,rfl⟩
   ·rintro m _ ⟨i,him,rfl⟩
    by_cases hi : i < n + 2
    ·have f1 : ((i : Int) < ((n + 2 : Nat) : Int)) = True:= eq_true (by omega)
     have w1:= wrap_succ i (by omega)
     obtain ⟨j,hj,hjl⟩ : ∃ j : Nat,(i + 1) % (n + 2) = j ∧ j < 6:= ⟨_,rfl,by have:= Nat.mod_lt (i + 1) (show 0 < n + 2 by omega); omega⟩
     have tn : ((i + 1 : Nat) : Int).tmod ((n + 2 : Nat) : Int) = (j : Int):= by
      rw [Int.tmod_eq_emod_of_nonneg (by omega),← hj]
      rfl
     have k0 : (((n + 2 : Nat) : Int) == 0) = false:= by simp; omega
     have w3:= wrap_succ j (by omega)
     have hA2:= C_nAddr 0 (j + 1) (by decide) (by omega)
     simp only [avI,avU,Int.natCast_zero] at hA2
     have e1:= rgO_succ (n + 2) i
     rw [hj] at e1
     have l1 : ((rgO (n + 2) i).map avRoute).length ≤ 1000:= by rw [List.length_map,rgO_len]; omega
     generalize (rgO (n + 2) i).map avRoute = R at *
     generalize (rgR (n + 2)).map avRouter = RR at *
     generalize (rgP (n + 2)).map avPort = PP at *
     cases R with
     | nil =>
      have ea : ∀ s c x,avApp 5 40 [] 69 s c (.sl .nil 0 []) (.sl (.own [68]) 5 [AV.agg x]) = _:= fun s c x => avApp_nil (d:= 69) (s:= s) (c:= c) 5 40 0 [] [] [AV.agg x] (.own [68]) (by simp) (by decide)
      simp only [go_sem,f1,decide_true,rowO_nil]
      refine callX_of hL1 ?_
      simp only [go_sem,rowO_nil,w1,k0,tn,w3]
      refine callX_of hA2 ?_
      simp only [go_sem,rowO_nil,w1,ea]
      exact ⟨m - 1,by omega,i + 1,by omega,by rw [e1]; rfl⟩
     | cons z zs =>
      have ea : ∀ s c x,avApp 5 40 [] 69 s c (.sl (.own [69]) 5 (z :: zs)) (.sl (.own [68]) 5 [AV.agg x]) = _:= fun s c x => avApp_own (d:= 69) (s:= s) (c:= c) 5 40 [] [69] (z :: zs) [AV.agg x] (.own [68]) (by simp at l1 ⊢; omega) (by decide) rfl
      simp only [go_sem,f1,decide_true,rowO_cons]
      refine callX_of hL1 ?_
      simp only [go_sem,rowO_cons,w1,k0,tn,w3]
      refine callX_of hA2 ?_
      simp only [go_sem,rowO_cons,w1,ea]
      exact ⟨m - 1,by omega,i + 1,by omega,by rw [e1]; rfl⟩
    ·have f1 : ((i : Int) < ((n + 2 : Nat) : Int)) = False:= eq_false (by omega)
     have ei : i = n + 2:= by omega
     subst ei
     have en3 : rowO [69] 5 ((rgO (n + 2) (n + 2)).map avRoute) = .sl (.own [69]) 5 ((rgO (n + 2) (n + 2)).map avRoute):= rowO_ne (by
      intro e
      have:= congrArg List.length e
      rw [List.length_map,rgO_len] at this
      simp at this)
     rw [en3]
     have w1:= wrap_succ r (by omega)
     have tn : ((r + 1 : Nat) : Int).tmod ((n + 2 : Nat) : Int) = (((r + 1) % (n + 2) : Nat) : Int):= by
      rw [Int.tmod_eq_emod_of_nonneg (by omega)]
      rfl
     have k0 : (((n + 2 : Nat) : Int) == 0) = false:= by simp; omega
     have k00 : (((0 : Nat) : Int) == 0) = true:= rfl
     have wk0 : WkL [.agg [.sl .none 2 ((rgR (n + 2)).map avRouter),.sl .none 3 [.agg [.lit (.string (nameN 108 0)),.lit (.int .u32 ((addrL 0 0 : Nat) : Int)),.lit (.int .i64 24)],.agg [.lit (.string (nameN 108 1)),.lit (.int .u32 ((addrL 1 0 : Nat) : Int)),.lit (.int .i64 24)]],.sl .none 3 ((rgP (n + 2)).map avPort),.sl .none 5 ((rgO (n + 2) (n + 2)).map avRoute),.sl .nil 0 [],.sl .nil 0 [],.sl .nil 0 []]] [.agg (netV (rgW (n + 2) false))]:= ⟨wk_agg ⟨Wk.rfl _,Wk.rfl _,Wk.rfl _,Wk.rfl _,wk_nil _ _,wk_nil _ _,wk_nil _ _,trivial⟩,trivial⟩
     have wk1 : WkL [.agg [.sl .none 2 ((rgR (n + 2)).map avRouter),.sl .none 3 [.agg [.lit (.string (nameN 108 0)),.lit (.int .u32 ((addrL 0 0 : Nat) : Int)),.lit (.int .i64 24)],.agg [.lit (.string (nameN 108 1)),.lit (.int .u32 ((addrL 1 0 : Nat) : Int)),.lit (.int .i64 24)]],.sl .none 3 ((rgP (n + 2)).map avPort),.sl .none 5 ((rgO (n + 2) (n + 2)).map avRoute),.sl .nil 0 [],.sl .nil 0 [],.sl .nil 0 []],.lit (.int .i64 1),.lit (.int .i64 1)] [.agg (netV (rgW (n + 2) false)),.lit (.int .i64 1),.lit (.int .i64 1)]:= ⟨wk0.1,Wk.rfl _,Wk.rfl _,trivial⟩
     have hN0:= (hN false).wk wk0
     have hSd2:= hSd.wk wk1
     simp only [go_sem,f1,decide_false]
     cases s with
     | true =>
      have h1:= hCh true
      have h2:= hTo true
      have h3:= hRo true
      obtain ⟨h,ht,hin,hup⟩:= hto true
      rw [hch true] at h1
      rw [ht] at h2
      rw [hro true] at h3
      have hN1:= hN true
      rw [rg_net1] at hN1
      simp only [chainV,toV,hopV,hin,hup,avU] at h1 h2
      generalize topoV (rgW (n + 2) true) = T at *
      simp only [go_sem]
      refine callX_of hSd2 ?_
      simp only [go_sem]
      refine callX_of hN1 ?_
      simp only [go_sem]
      refine callX_of hA ?_
      simp only [go_sem]
      refine callX_of h1 ?_
      simp only [go_sem]
      refine callX_of hA ?_
      simp only [go_sem]
      refine callX_of h2 ?_
      simp only [go_sem,List.length_nil,BEq.rfl,w1,k0,k00,tn]
      refine callX_of h3 ?_
      simp only [go_sem]
     | false =>
      have h1:= hCh false
      have h2:= hTo false
      have h3:= hRo false
      obtain ⟨h,ht,hin,hup⟩:= hto false
      rw [hch false] at h1
      rw [ht] at h2
      rw [hro false] at h3
      simp only [chainV,toV,hopV,hin,hup,avU] at h1 h2
      generalize topoV (rgW (n + 2) false) = T at *
      simp only [go_sem]
      refine callX_of hN0 ?_
      simp only [go_sem]
      refine callX_of hA ?_
      simp only [go_sem]
      refine callX_of h1 ?_
      simp only [go_sem]
      refine callX_of hA ?_
      simp only [go_sem]
      refine callX_of h2 ?_
      simp only [go_sem,List.length_nil,BEq.rfl,w1,k0,k00,tn]
      refine callX_of h3 ?_
      simp only [go_sem]
end Go.Proofs.YtjceingdmfogeaaGreatDoor.VL
end

section
namespace Go.Proofs.YtjceingdmfogeaaGreatDoor
open Go.RowKit VL
theorem fit_bool {cs : List AV} (h : FitL [.bool] cs) : ∃ b : Bool,mkRow false cs = .lit (.bool b):= by
 simp only [FitL,Fit] at h
 obtain ⟨_,_,rfl,⟨b,rfl⟩,rfl⟩:= h
 exact ⟨b,rfl⟩
end Go.Proofs.YtjceingdmfogeaaGreatDoor
end

