import Derived.Test.YtnndbbmidoidpaaGreatDoorGa13
set_option linter.unusedVariables false
set_option linter.unusedSimpArgs false
section
set_option maxHeartbeats 4000000
namespace Go.Proofs.YtnndbbmidoidpaaGreatDoor.VL
open Go.RowKit Go.Proofs
def nilR (n : Nat) : List AV:= List.replicate n (.sl .nil 0 [])
theorem nilR_len (n : Nat) : (nilR n).length = n:= by simp [nilR]
theorem nilR_ne {n : Nat} (h : 0 < n) : nilR n ≠ []:= fun e => by have:= congrArg List.length e; rw [nilR_len] at this; simp at this; omega
theorem nilR_row (n : Nat) : ∀ r ∈ nilR n,r.row = true:= fun r hr => by rw [List.eq_of_mem_replicate hr]; rfl
theorem nilR_cells (n : Nat) : (nilR n).flatMap cellsOf = nilR n:= by
 unfold nilR
 induction n with
 | zero => rfl
 | succ n ih => rw [List.replicate_succ,List.flatMap_cons,ih]; rfl
theorem nilR_map {f : AV → AV} (h : f (.sl .nil 0 []) = .sl .nil 0 []) (n : Nat) : (nilR n).map f = nilR n:= by rw [nilR,List.map_replicate,h]
theorem nilR_strip {r : List AV} (hr : DD r) (τ : List Nat) (n : Nat) : stripL τ (nilR n ++ r) = nilR n ++ r:= by rw [hr.strip,stripL_map,nilR_map rfl]
def E12 (w : NW) (on of : AV) (more : List (Nat × List AV)) : Env:= mkE [(1,.lp 1 0),(5,.lp 33 0)] ((1,netV w) :: (33,tC w on of (.mu [0] (keysP w w.pts.length) (valsP w.pts.length)) (.sl (.fr [31]) 1 (nilR w.lks.length)) (.sl .nil 0 [])) :: more)
def F12 (w : NW) (E : Env) : Prop :=
 (w.pts = [] ∧ E = E12 w (.sl (.fr [22]) 1 (nilR w.lks.length)) (.sl (.fr [26]) 1 (nilR w.rts.length)) []) ∨
 ∃ cap1 cap2 r1 r2,w.lks.length ≤ cap1 ∧ w.rts.length ≤ cap2 ∧ DD r1 ∧ DD r2 ∧ E = E12 w (.ml 907 0 w.lks.length cap1 false 1) (.ml 908 0 w.rts.length cap2 false 1) [(907,rowsT 58 (fun j => idxK (onQ w j) w.pts.length) w.lks.length ++ r1),(908,rowsT 76 (fun j => idxK (ofQ w j) w.pts.length) w.rts.length ++ r2)]
theorem kill_net (m : Nat) (w : NW) : killL m (netV w) = netV w:= rfl
theorem strip_net (τ : List Nat) (w : NW) : stripL τ (netV w) = netV w:= rfl
theorem relab_net (τ τ' : List Nat) (w : NW) : relabL τ τ' (netV w) = netV w:= rfl
theorem renew_net (τ : List Nat) (ks : List Value) (vs : List AV) (w : NW) : renewL τ ks vs (netV w) = netV w:= rfl
def ONv (w : NW) : AV:= .sl .none 1 (rowsN (fun j => idxK (onQ w j) w.pts.length) w.lks.length)
def OFv (w : NW) : AV:= .sl .none 1 (rowsN (fun j => idxK (ofQ w j) w.pts.length) w.rts.length)
def MBv (w : NW) : AV:= .sl .none 1 (rowsN (fun j => idxK (mbQ w j) w.mbs.length) w.lks.length)
def ATv (w : NW) : AV:= .mu [0] (keysP w w.pts.length) (valsP w.pts.length)
def F18 (w : NW) (E : Env) : Prop :=
 (w.mbs = [] ∧ E = mkE [(1,.lp 1 0),(5,.lp 33 0)] [(1,netV w),(33,tC w (ONv w) (OFv w) (ATv w) (.sl (.fr [31]) 1 (nilR w.lks.length)) (.sl (.fr [120]) 1 []))]) ∨
 ∃ cap r,w.lks.length ≤ cap ∧ DD r ∧ E = mkE [(1,.lp 1 0),(5,.lp 33 0)] [(1,netV w),(33,tC w (ONv w) (OFv w) (ATv w) (.ml 910 0 w.lks.length cap false 1) (.sl (.fr [120]) 1 ((w.mbs.map fun x => x.g).map avU))),(910,rowsT 110 (fun j => idxK (mbQ w j) w.mbs.length) w.lks.length ++ r)]
theorem rowsN_nil (n : Nat) : rowsN (fun _ => []) n = nilR n:= by
 rw [nilR,List.eq_replicate_iff]
 refine ⟨by simp [rowsN],fun x hx => ?_⟩
 obtain ⟨j,_,rfl⟩:= List.mem_map.1 hx
 rfl
theorem rowsN_len (f : Nat → List Nat) (n : Nat) : (rowsN f n).length = n:= by simp [rowsN]
theorem chunk_one : ∀ l : List AV,chunk false 1 l.length l = l
 | [] => rfl
 | a :: l => by simp only [List.length_cons,chunk,List.take_succ_cons,List.take_zero,List.headD_cons,List.drop_succ_cons,List.drop_zero,chunk_one l]
theorem close_part (b : Nat) (f : Nat → List Nat) (n : Nat) (r : List AV) : mapO closeV (((rowsT b f n ++ r).drop 0).take (n * 1)) = some (rowsN f n):= by
 rw [List.drop_zero,Nat.mul_one,List.take_append_of_le_length (by rw [rowsT_len]; exact Nat.le_refl _),List.take_of_length_le (by rw [rowsT_len]; exact Nat.le_refl _)]
 exact close_rows b f n
theorem fz12 (w : NW) (E : Env) (hE : F12 w E) : VS E fun E' => E' = mkE [(1,.lp 1 0),(5,.lp 33 0)] [(1,netV w),(33,tC w (ONv w) (OFv w) (ATv w) (.sl (.fr [31]) 1 (nilR w.lks.length)) (.sl (.fr [120]) 1 []))]:= by
 rcases hE with ⟨h0,rfl⟩ | ⟨cap1,cap2,r1,r2,hc1,hc2,hr1,hr2,rfl⟩
 ·have e1 : ONv w = .sl .none 1 (nilR w.lks.length):= by simp only [ONv,h0,List.length_nil,idxK_zero,rowsN_nil]
  have e2 : OFv w = .sl .none 1 (nilR w.rts.length):= by simp only [OFv,h0,List.length_nil,idxK_zero,rowsN_nil]
  rw [e1,e2]
  unfold E12
  refine VS.trans (VS.freeze (p:= .cell 33 7) rfl) ?_
  rintro _ rfl
  simp only [mkE_strip]
  simp only [go_sem,strip_net,tC]
  rw [set_cell (cs:= tC w (.sl .gone 1 (nilR w.lks.length)) (.sl (.fr [26]) 1 (nilR w.rts.length)) (ATv w) (.sl (.fr [31]) 1 (nilR w.lks.length)) (.sl .nil 0 [])) (by simp only [go_sem]; rfl)]
  simp only [go_sem,tC,List.set_cons_succ,List.set_cons_zero]
  refine VS.trans (VS.freeze (p:= .cell 33 8) rfl) ?_
  rintro _ rfl
  simp only [mkE_strip]
  simp only [go_sem,strip_net,ATv]
  rw [set_cell (cs:= tC w (.sl .none 1 (nilR w.lks.length)) (.sl .gone 1 (nilR w.rts.length)) (ATv w) (.sl (.fr [31]) 1 (nilR w.lks.length)) (.sl .nil 0 [])) (by simp only [go_sem]; rfl)]
  simp only [go_sem,tC,List.set_cons_succ,List.set_cons_zero]
  refine VS.mono (VS.tell (p:= .cell 33 11) (y:= .sl (.fr [120]) 1 []) rfl fun F v h => rep_nil_fr h) ?_
  rintro _ rfl
  rw [set_cell (cs:= tC w (.sl .none 1 (nilR w.lks.length)) (.sl .none 1 (nilR w.rts.length)) (ATv w) (.sl (.fr [31]) 1 (nilR w.lks.length)) (.sl .nil 0 [])) (by simp only [go_sem]; rfl)]
  simp only [go_sem,tC,List.set_cons_succ,List.set_cons_zero,ATv]
 ·unfold E12
  have e3 : chunk false 1 w.lks.length (rowsN (fun j => idxK (onQ w j) w.pts.length) w.lks.length) = rowsN (fun j => idxK (onQ w j) w.pts.length) w.lks.length:= by
   have:= chunk_one (rowsN (fun j => idxK (onQ w j) w.pts.length) w.lks.length)
   rwa [rowsN_len] at this
  have e4 : chunk false 1 w.rts.length (rowsN (fun j => idxK (ofQ w j) w.pts.length) w.rts.length) = rowsN (fun j => idxK (ofQ w j) w.pts.length) w.rts.length:= by
   have:= chunk_one (rowsN (fun j => idxK (ofQ w j) w.pts.length) w.rts.length)
   rwa [rowsN_len] at this
  refine VS.trans (VS.freezeM (p:= .cell 33 7) rfl (by decide) rfl ⟨by rw [List.length_append,rowsT_len]; omega,hc1,.inr rfl⟩ (close_part _ _ _ _) (fun i e => by injection e with e; omega)) ?_
  rintro _ rfl
  rw [e3,mkE_forget]
  simp only [go_sem,kill_net,tC,hr2.kill,kill_rows]
  rw [set_cell (cs:= tC w .dead (.ml 908 0 w.rts.length cap2 false 1) (ATv w) (.sl (.fr [31]) 1 (nilR w.lks.length)) (.sl .nil 0 [])) (by simp only [go_sem]; rfl)]
  simp only [go_sem,tC,List.set_cons_succ,List.set_cons_zero]
  refine VS.trans (VS.freezeM (p:= .cell 33 8) rfl (by decide) rfl ⟨by rw [List.length_append,rowsT_len]; omega,hc2,.inr rfl⟩ (close_part _ _ _ _) (fun i e => by injection e with e; omega)) ?_
  rintro _ rfl
  rw [e4,mkE_forget]
  simp only [go_sem,kill_net,tC,ATv]
  rw [set_cell (cs:= tC w (ONv w) .dead (ATv w) (.sl (.fr [31]) 1 (nilR w.lks.length)) (.sl .nil 0 [])) (by simp only [go_sem]; rfl)]
  simp only [go_sem,tC,List.set_cons_succ,List.set_cons_zero]
  refine VS.mono (VS.tell (p:= .cell 33 11) (y:= .sl (.fr [120]) 1 []) rfl fun F v h => rep_nil_fr h) ?_
  rintro _ rfl
  rw [set_cell (cs:= tC w (ONv w) (OFv w) (ATv w) (.sl (.fr [31]) 1 (nilR w.lks.length)) (.sl .nil 0 [])) (by simp only [go_sem]; rfl)]
  simp only [go_sem,tC,List.set_cons_succ,List.set_cons_zero,ATv]
def mgs (w : NW) : List Nat:= w.mbs.map fun x => x.g
def sgs (w : NW) (i : Nat) : List Nat:= (w.scs.take i).map fun x => x.g
theorem fz18 (w : NW) (E : Env) (hE : F18 w E) : VS E fun E' => E' = mkE [(1,.lp 1 0),(5,.lp 33 0)] [(1,netV w),(33,tC w (ONv w) (OFv w) (ATv w) (MBv w) (.sl (.fr [140]) 1 ((mgs w).map avU)))]:= by
 rcases hE with ⟨h0,rfl⟩ | ⟨cap1,r1,hc1,hr1,rfl⟩
 ·have e1 : MBv w = .sl .none 1 (nilR w.lks.length):= by simp only [MBv,h0,List.length_nil,idxK_zero,rowsN_nil]
  have e2 : (mgs w).map avU = []:= by simp only [mgs,h0,List.map_nil]
  rw [e1,e2]
  refine VS.trans (VS.freeze (p:= .cell 33 10) rfl) ?_
  rintro _ rfl
  simp only [mkE_strip]
  simp only [go_sem,strip_net,tC,ONv,OFv,ATv]
  rw [set_cell (cs:= tC w (ONv w) (OFv w) (ATv w) (.sl .gone 1 (nilR w.lks.length)) (.sl (.fr [120]) 1 [])) (by simp only [go_sem]; rfl)]
  simp only [go_sem,tC,List.set_cons_succ,List.set_cons_zero]
  refine VS.mono (VS.relab [120] [140]) ?_
  rintro _ rfl
  simp only [mkE_relab]
  simp only [go_sem,relab_net,ONv,OFv,ATv]
 ·have e3 : chunk false 1 w.lks.length (rowsN (fun j => idxK (mbQ w j) w.mbs.length) w.lks.length) = rowsN (fun j => idxK (mbQ w j) w.mbs.length) w.lks.length:= by
   have:= chunk_one (rowsN (fun j => idxK (mbQ w j) w.mbs.length) w.lks.length)
   rwa [rowsN_len] at this
  refine VS.trans (VS.freezeM (p:= .cell 33 10) rfl (by decide) rfl ⟨by rw [List.length_append,rowsT_len]; omega,hc1,.inr rfl⟩ (close_part _ _ _ _) (fun i e => by injection e with e; omega)) ?_
  rintro _ rfl
  rw [e3,mkE_forget]
  simp only [go_sem,kill_net,tC,ONv,OFv,ATv]
  rw [set_cell (cs:= tC w (ONv w) (OFv w) (ATv w) .dead (.sl (.fr [120]) 1 ((mgs w).map avU))) (by simp only [go_sem]; rfl)]
  simp only [go_sem,tC,List.set_cons_succ,List.set_cons_zero]
  refine VS.mono (VS.relab [120] [140]) ?_
  rintro _ rfl
  simp only [mkE_relab]
  simp only [go_sem,relab_net,ONv,OFv,ATv,MBv]
def F23 (w : NW) (E : Env) : Prop:= E = mkE [(5,.lp 33 0)] [(1,netV w),(33,tC w (ONv w) (OFv w) (ATv w) (MBv w) (.sl (.fr [140]) 1 ((mgs w ++ sgs w w.scs.length).map avU)))]
def gsL (w : NW) : List Nat:= mgs w ++ w.scs.map fun x => x.g
theorem gsL_eq (w : NW) : mgs w ++ sgs w w.scs.length = gsL w:= by simp only [sgs,List.take_length,gsL]
def topoV (w : NW) : List AV:= tC w (ONv w) (OFv w) (.mp (keysP w w.pts.length) (valsP w.pts.length)) (MBv w) (.sl .none 1 ((rise (zs (gsL w))).map aI))
theorem C_New (w : NW) (h : w.OK) (hf : w.Fit) (hv : vNet w = none) : AC Tryz.prog f_q8 [.agg (netV w)] (.tup [.rp (topoV w),.lit .nilIface]):= by
 have hcV:= C_cValid w h
 rw [hv] at hcV
 have z1 : w.rts.length ≤ 16:= len_le hv 0 (by decide)
 have z2 : w.lks.length ≤ 24:= len_le hv 1 (by decide)
 have z3 : w.pts.length ≤ 64:= len_le hv 2 (by decide)
 have z6 : w.scs.length ≤ 8:= len_le hv 5 (by decide)
 have z7 : w.mbs.length ≤ 24:= len_le hv 6 (by decide)
 have y1 : ((w.rts.length : Int) ≤ 4294967296) = True:= eq_true (by omega)
 have y2 : ((w.lks.length : Int) ≤ 4294967296) = True:= eq_true (by omega)
 refine ac_q8 ?_ (Nat.le_add_left 1 _)
 simp only [go_sem,c_q8,low_net,one_net,len_net,take_net,Nat.le_refl]
 refine callX_of hcV ?_
 simp only [go_sem,amiss,low_net,one_net,len_net,take_net,Nat.le_refl]
 refine callX_of (C_cClone w hf) ?_
 have mk : ∀ d n : Nat,n ≤ 4294967296 → mkfV false 1 24 d [AV.sl .nil 0 []] (.lit (.int .i64 (n : Nat))) (.lit (.int .i64 (n : Nat))) = some (.sl (.fr [d]) 1 (List.replicate n (.sl .nil 0 []))):= fun d n hn => by
  rw [mkfV_n false 1 24 [AV.sl .nil 0 []] .i64 .i64 (n : Int) (by omega) (by omega) (by decide) rfl (.inr rfl) rfl,Int.toNat_natCast]
  rfl
 simp only [go_sem,netV,List.length_map,mk _ w.lks.length (by omega),mk _ w.rts.length (by omega)]
 refine cutS (F12 w) ?_ ?_
 ·by_cases h0 : w.pts = []
  ·refine shiftX_of (VS.adoptM (p:= .cell 33 9) (name:= [0]) rfl) ?_
   rintro _ rfl
   simp only [mkE_killn',mkE_strip]
   simp only [go_sem]
   rw [set_cell (cs:= tC w (.sl (.fr [22]) 1 (nilR w.lks.length)) (.sl (.fr [26]) 1 (nilR w.rts.length)) (.mf [27] false) (.sl (.fr [31]) 1 (nilR w.lks.length)) (.sl .nil 0 [])) (by simp only [go_sem]; rfl)]
   simp only [go_sem,tC,List.set_cons_succ,List.set_cons_zero,h0,List.map_nil,List.length_nil]
   refine aw_loop (fun m E => E = mkE [(1,.lp 1 0),(5,.lp 33 0),(35,.sl .none 3 []),(36,.lit (.int .i64 ((0 : Nat) : Int))),(37,.lit (.int .i64 0))] [(1,netV w),(33,tC w (.sl (.fr [22]) 1 (nilR w.lks.length)) (.sl (.fr [26]) 1 (nilR w.rts.length)) (.mu [0] [] []) (.sl (.fr [31]) 1 (nilR w.lks.length)) (.sl .nil 0 []))]) 0 ?_ ?_
   ·simp only [go_sem,netV,tC,h0,List.map_nil]
   ·rintro m _ rfl
    have f1 : ((0 : Int) < ((0 : Nat) : Int)) = False:= eq_false (by omega)
    simp only [go_sem,f1,decide_false]
    exact .inl ⟨h0,by simp only [E12,keysP,valsP,h0]; rfl⟩
  ·obtain ⟨x0,hx0⟩ : ∃ x,w.pts[0]? = some x:= by
    cases hp : w.pts with
    | nil => exact absurd hp h0
    | cons x l => exact ⟨x,rfl⟩
   obtain ⟨⟨r0,_,hr0⟩,⟨k0,_,hk0⟩,_,_⟩:= portOK hv hx0
   have e1 : nilR w.lks.length ≠ []:= nilR_ne (by omega)
   have e2 : nilR w.rts.length ≠ []:= nilR_ne (by omega)
   refine shiftX_of (S:= fun E' => ∃ cap1 cap2 r1 r2,w.lks.length ≤ cap1 ∧ w.rts.length ≤ cap2 ∧ DD r1 ∧ DD r2 ∧ E' = mkE [(1,.lp 1 0),(5,.lp 33 0)] [(1,netV w),(33,tC w (.ml 907 0 w.lks.length cap1 false 1) (.ml 908 0 w.rts.length cap2 false 1) (.mu [0] [] []) (.sl (.fr [31]) 1 (nilR w.lks.length)) (.sl .nil 0 [])),(907,nilR w.lks.length ++ r1),(908,nilR w.rts.length ++ r2)]) ?_ ?_
   ·refine VS.trans (VS.adoptM (p:= .cell 33 9) (name:= [0]) rfl) ?_
    rintro _ rfl
    simp only [mkE_killn',mkE_strip]
    simp only [go_sem]
    rw [set_cell (cs:= tC w (.sl (.fr [22]) 1 (nilR w.lks.length)) (.sl (.fr [26]) 1 (nilR w.rts.length)) (.mf [27] false) (.sl (.fr [31]) 1 (nilR w.lks.length)) (.sl .nil 0 [])) (by simp only [go_sem]; rfl)]
    simp only [go_sem,tC,List.set_cons_succ,List.set_cons_zero]
    refine VS.trans (VS.adopt (p:= .cell 33 7) (g:= false) 907 rfl e1 (nilR_row _) (by decide) rfl) ?_
    rintro _ ⟨cap1,j1,hc1,rfl⟩
    rw [nilR_cells]
    simp only [mkE_strip]
    simp only [go_sem]
    rw [set_cell (cs:= tC w (.sl .gone 1 (nilR w.lks.length)) (.sl (.fr [26]) 1 (nilR w.rts.length)) (.mu [0] [] []) (.sl (.fr [31]) 1 (nilR w.lks.length)) (.sl .nil 0 [])) (by simp only [go_sem]; rfl)]
    simp only [mkE_putc]
    simp only [go_sem,tC,List.set_cons_succ,List.set_cons_zero]
    refine VS.mono (VS.adopt (p:= .cell 33 8) (g:= false) 908 rfl e2 (nilR_row _) (by decide) rfl) ?_
    rintro _ ⟨cap2,j2,hc2,rfl⟩
    rw [nilR_cells]
    simp only [mkE_strip]
    simp only [go_sem,nilR_strip (DD.rep j1)]
    rw [set_cell (cs:= tC w (.ml 907 0 (nilR w.lks.length).length cap1 false 1) (.sl .gone 1 (nilR w.rts.length)) (.mu [0] [] []) (.sl (.fr [31]) 1 (nilR w.lks.length)) (.sl .nil 0 [])) (by simp only [go_sem]; rfl)]
    simp only [mkE_putc]
    simp only [go_sem,tC,List.set_cons_succ,List.set_cons_zero,nilR_len] at hc1 hc2 ⊢
    exact ⟨cap1,cap2,_,_,hc1,hc2,DD.rep j1,DD.rep j2,rfl⟩
   ·rintro _ ⟨cap1,cap2,r1,r2,hc1,hc2,hr1,hr2,rfl⟩
    simp only [go_sem,tC,netV,List.length_map]
    refine aw_loop (fun m E => ∃ i : Nat,i + m = w.pts.length ∧ E = mkE [(1,.lp 1 0),(5,.lp 33 0),(35,.sl .none 3 (w.pts.map avPort)),(36,.lit (.int .i64 (w.pts.length : Nat))),(37,.lit (.int .i64 (i : Nat)))] [(1,netV w),(33,tC w (.ml 907 0 w.lks.length cap1 false 1) (.ml 908 0 w.rts.length cap2 false 1) (.mu [0] (keysP w i) (valsP i)) (.sl (.fr [31]) 1 (nilR w.lks.length)) (.sl .nil 0 [])),(907,rowsT 58 (fun j => idxK (onQ w j) i) w.lks.length ++ r1),(908,rowsT 76 (fun j => idxK (ofQ w j) i) w.rts.length ++ r2)]) w.pts.length ?_ ?_
    ·refine ⟨0,by omega,?_⟩
     simp only [idxK_zero,rowsT_nil]
     simp only [go_sem,Int.natCast_zero]
     rfl
    ·rintro m _ ⟨i,hi,rfl⟩
     by_cases hil : i < w.pts.length
     ·have f1 : ((i : Int) < (w.pts.length : Int)) = True:= eq_true (by omega)
      obtain ⟨x,hx⟩ : ∃ x,w.pts[i]? = some x:= ⟨w.pts[i],List.getElem?_eq_getElem hil⟩
      obtain ⟨⟨r,hr,hrl⟩,⟨k,hk,hkl⟩,_,hone⟩:= portOK hv hx
      have hw:= wrap_succ i (by omega)
      have ld1 : ∀ (f : Nat → List Nat),aval.ld false 1 ((rowsT 58 f w.lks.length ++ r1).drop k) = some (slI [58,k] (f k)):= fun f => by
       rw [ld_drop,List.getElem?_append_left (by rw [rowsT_len]; exact hkl)]
       exact rowsT_get 58 f _ k hkl
      have ld2 : ∀ (f : Nat → List Nat),aval.ld false 1 ((rowsT 76 f w.rts.length ++ r2).drop r) = some (slI [76,r] (f r)):= fun f => by
       rw [ld_drop,List.getElem?_append_left (by rw [rowsT_len]; exact hrl)]
       exact rowsT_get 76 f _ r hrl
      have q1 : ((k : Int) < (w.lks.length : Int)) = True:= eq_true (by omega)
      have q2 : ((r : Int) < (w.rts.length : Int)) = True:= eq_true (by omega)
      simp only [go_sem,f1,decide_true,tC,hx,Int.toNat_natCast,Int.natCast_nonneg,List.getElem?_map,rowAgg,avPort,avU,hr,hk,q1,Nat.zero_add,Nat.mul_one,ld1]
      have hl1:= idxK_len (onQ w k) i
      have hl2:= idxK_len (ofQ w r) i
      have a1 : k + 1 ≤ (rowsT 58 (fun j => idxK (onQ w j) i) w.lks.length ++ r1).length:= by rw [List.length_append,rowsT_len]; omega
      have a2 : k + 1 ≤ (stripL [58,k] (rowsT 58 (fun j => idxK (onQ w j) i) w.lks.length) ++ r1).length:= by rw [List.length_append,stripL_map,List.length_map,rowsT_len]; omega
      have a3 : r + 1 ≤ (rowsT 76 (fun j => idxK (ofQ w j) i) w.rts.length ++ r2).length:= by rw [List.length_append,rowsT_len]; omega
      have a4 : r + 1 ≤ (stripL [76,r] (rowsT 76 (fun j => idxK (ofQ w j) i) w.rts.length) ++ r2).length:= by rw [List.length_append,stripL_map,List.length_map,rowsT_len]; omega
      have p1:= fun y => put_set (rowsT 58 (fun j => idxK (onQ w j) i) w.lks.length) r1 k y (by rw [rowsT_len]; exact hkl)
      have p2:= fun y => put_set (stripL [58,k] (rowsT 58 (fun j => idxK (onQ w j) i) w.lks.length)) r1 k y (by rw [stripL_map,List.length_map,rowsT_len]; exact hkl)
      have p3:= fun y => put_set (rowsT 76 (fun j => idxK (ofQ w j) i) w.rts.length) r2 r y (by rw [rowsT_len]; exact hrl)
      have p4:= fun y => put_set (stripL [76,r] (rowsT 76 (fun j => idxK (ofQ w j) i) w.rts.length)) r2 r y (by rw [stripL_map,List.length_map,rowsT_len]; exact hrl)
      refine cutR (mkE [(1,.lp 1 0),(5,.lp 33 0),(6,avI i),(7,.lp 7 0),(35,.sl .none 3 (w.pts.map avPort)),(36,.lit (.int .i64 (w.pts.length : Nat))),(37,avI i)] [(1,netV w),(7,[avI r,avI k,avU x.a]),(33,tC w (.ml 907 0 w.lks.length cap1 false 1) (.ml 908 0 w.rts.length cap2 false 1) (.mu [0] (keysP w i) (valsP i)) (.sl (.fr [31]) 1 (nilR w.lks.length)) (.sl .nil 0 [])),(907,(rowsT 58 (fun j => idxK (onQ w j) i) w.lks.length).set k (.sl (.own [58]) 1 ((idxK (onQ w k) i ++ [i]).map avI)) ++ r1),(908,rowsT 76 (fun j => idxK (ofQ w j) i) w.rts.length ++ r2)]) ?_ ?_
      ·by_cases hn : idxK (onQ w k) i = []
       ·have e1 : slI [58,k] (idxK (onQ w k) i) = .sl .nil 0 []:= by rw [slI,if_pos hn]
        rw [e1,avApp_nil 1 8 0 [] [] [AV.lit (.int .i64 (i : Nat))] _ (by simp) (by decide)]
        simp only [go_sem,q1,Int.toNat_natCast,Int.natCast_nonneg,Nat.zero_add,Nat.mul_one,a1,p1,hn,List.nil_append,List.map_cons,List.map_nil]
        rfl
       ·have e1 : slI [58,k] (idxK (onQ w k) i) = .sl (.own [58,k]) 1 ((idxK (onQ w k) i).map avI):= by rw [slI,if_neg hn]
        rw [e1,avApp_own 1 8 [] [58,k] _ [AV.lit (.int .i64 (i : Nat))] _ (by simp; omega) (by decide) rfl]
        simp only [go_sem,q1,Int.toNat_natCast,Int.natCast_nonneg,Nat.zero_add,Nat.mul_one,hr1.strip,hr2.strip,strip_rows [58,k] 76 _ _ (fun j => by simp),a2,p2,strip_set,List.map_append,List.map_cons,List.map_nil]
        rfl
      simp only [go_sem,tC,avI,avU,q2,Int.toNat_natCast,Int.natCast_nonneg,Nat.zero_add,Nat.mul_one,ld2]
      refine cutR (mkE [(1,.lp 1 0),(5,.lp 33 0),(6,avI i),(7,.lp 7 0),(35,.sl .none 3 (w.pts.map avPort)),(36,.lit (.int .i64 (w.pts.length : Nat))),(37,avI i)] [(1,netV w),(7,[avI r,avI k,avU x.a]),(33,tC w (.ml 907 0 w.lks.length cap1 false 1) (.ml 908 0 w.rts.length cap2 false 1) (.mu [0] (keysP w i) (valsP i)) (.sl (.fr [31]) 1 (nilR w.lks.length)) (.sl .nil 0 [])),(907,(rowsT 58 (fun j => idxK (onQ w j) i) w.lks.length).set k (.sl (.own [58]) 1 ((idxK (onQ w k) i ++ [i]).map avI)) ++ r1),(908,(rowsT 76 (fun j => idxK (ofQ w j) i) w.rts.length).set r (.sl (.own [76]) 1 ((idxK (ofQ w r) i ++ [i]).map avI)) ++ r2)]) ?_ ?_
      ·by_cases hn : idxK (ofQ w r) i = []
       ·have e1 : slI [76,r] (idxK (ofQ w r) i) = .sl .nil 0 []:= by rw [slI,if_pos hn]
        rw [e1,avApp_nil 1 8 0 [] [] [AV.lit (.int .i64 (i : Nat))] _ (by simp) (by decide)]
        simp only [go_sem,q2,Int.toNat_natCast,Int.natCast_nonneg,Nat.zero_add,Nat.mul_one,a3,p3,hn,List.nil_append,List.map_cons,List.map_nil]
        rfl
       ·have e1 : slI [76,r] (idxK (ofQ w r) i) = .sl (.own [76,r]) 1 ((idxK (ofQ w r) i).map avI):= by rw [slI,if_neg hn]
        rw [e1,avApp_own 1 8 [] [76,r] _ [AV.lit (.int .i64 (i : Nat))] _ (by simp; omega) (by decide) rfl]
        have sr:= strip_rows_set [76,r] 58 (fun j => idxK (onQ w j) i) w.lks.length k
        simp only [go_sem,q2,Int.toNat_natCast,Int.natCast_nonneg,Nat.zero_add,Nat.mul_one,hr1.strip,hr2.strip,sr _ (fun j => by simp) (by simp),a4,p4,strip_set,List.map_append,List.map_cons,List.map_nil]
        rfl
      have hd : ∀ (j : Nat) (y : NPt),j < i → w.pts[j]? = some y → y.a ≠ x.a:= fun j y hj hy e => by
       have:= hone j y hj hy
       simp [p_port_1,e] at this
      have hput:= put_keys hx hd
      simp only [go_sem,tC,avI,avU]
      rw [mupX_of (y:= avI i) rfl hput]
      simp only [go_sem,hr1.renew,hr2.renew,renew_rows_set,renew_net]
      have g1 : rowsT 58 (fun j => if j = k then idxK (onQ w k) i ++ [i] else idxK (onQ w j) i) w.lks.length = rowsT 58 (fun j => idxK (onQ w j) (i + 1)) w.lks.length:= rowsT_congr fun j _ => by
       by_cases hjk : j = k
       ·subst hjk
        simp [idxK_succ,onQ,hx,hk]
       ·have : (x.lk == (j : Int)) = false:= by simp [hk]; omega
        simp [idxK_succ,onQ,hx,hjk,this]
      have g2 : rowsT 76 (fun j => if j = r then idxK (ofQ w r) i ++ [i] else idxK (ofQ w j) i) w.rts.length = rowsT 76 (fun j => idxK (ofQ w j) (i + 1)) w.rts.length:= rowsT_congr fun j _ => by
       by_cases hjk : j = r
       ·subst hjk
        simp [idxK_succ,ofQ,hx,hr]
       ·have : (x.rt == (j : Int)) = false:= by simp [hr]; omega
        simp [idxK_succ,ofQ,hx,hjk,this]
      refine shiftX_of (S:= fun E' => E' = mkE [(1,.lp 1 0),(5,.lp 33 0),(35,.sl .none 3 (w.pts.map avPort)),(36,.lit (.int .i64 (w.pts.length : Nat))),(37,avI i)] [(1,netV w),(7,[avI r,avI k,avU x.a]),(33,tC w (.ml 907 0 w.lks.length cap1 false 1) (.ml 908 0 w.rts.length cap2 false 1) (.mu [0] (keysP w (i + 1)) (valsP (i + 1))) (.sl (.fr [31]) 1 (nilR w.lks.length)) (.sl .nil 0 [])),(907,rowsT 58 (fun j => idxK (onQ w j) (i + 1)) w.lks.length ++ r1),(908,rowsT 76 (fun j => idxK (ofQ w j) (i + 1)) w.rts.length ++ r2)]) ?_ ?_
      ·refine VS.trans (VS.relab [58] [58,k]) ?_
       rintro _ rfl
       have s1:= relab_set 58 (fun j => idxK (onQ w j) i) w.lks.length k (idxK (onQ w k) i ++ [i]) hkl (by simp)
       have s2:= relab_rows_set [58] [58,k] 76 (fun j => idxK (ofQ w j) i) w.rts.length r
       simp only [mkE_relab]
       simp only [go_sem,hr1.relab,hr2.relab,relab_net,s1,s2 _ (fun j => by simp) (by simp),g1]
       refine VS.mono (VS.relab [76] [76,r]) ?_
       rintro _ rfl
       have s3:= relab_set 76 (fun j => idxK (ofQ w j) i) w.rts.length r (idxK (ofQ w r) i ++ [i]) hrl (by simp)
       have s4:= relab_rows [76] [76,r] 58 (fun j => idxK (onQ w j) (i + 1)) w.lks.length
       simp only [mkE_relab]
       simp only [go_sem,hr1.relab,hr2.relab,relab_net,s3,s4 (fun j => by simp),g2]
       rfl
      ·rintro _ rfl
       simp only [go_sem,avI,avU,tC,hw,hr1.kill,hr2.kill,kill_rows,kill_net]
       exact ⟨m - 1,by omega,i + 1,by omega,rfl⟩
     ·have f1 : ((i : Int) < (w.pts.length : Int)) = False:= eq_false (by omega)
      obtain rfl : i = w.pts.length:= by omega
      simp only [go_sem,f1,decide_false]
      exact .inr ⟨cap1,cap2,r1,r2,hc1,hc2,hr1,hr2,rfl⟩
 ·intro E' hE'
  rw [aw_seq',aw_seq']
  refine cutA (F18 w) ?_ ?_
  ·by_cases h0 : w.mbs = []
   ·refine merge (F:= F12 w) (S:= fun E2 => E2 = mkE [(1,.lp 1 0),(5,.lp 33 0)] [(1,netV w),(33,tC w (ONv w) (OFv w) (ATv w) (.sl (.fr [31]) 1 (nilR w.lks.length)) (.sl (.fr [120]) 1 []))]) (fz12 w) ?_ E' hE'
    rintro _ rfl
    simp only [go_sem,tC,netV,h0,List.map_nil,List.length_nil]
    refine aw_loop (fun m E => E = mkE [(1,.lp 1 0),(5,.lp 33 0),(87,.sl .none 4 []),(88,.lit (.int .i64 ((0 : Nat) : Int))),(89,.lit (.int .i64 0))] [(1,netV w),(33,tC w (ONv w) (OFv w) (ATv w) (.sl (.fr [31]) 1 (nilR w.lks.length)) (.sl (.fr [120]) 1 []))]) 0 ?_ ?_
    ·simp only [go_sem,netV,tC,h0,List.map_nil]
    ·rintro m _ rfl
     have f1 : ((0 : Int) < ((0 : Nat) : Int)) = False:= eq_false (by omega)
     simp only [go_sem,f1,decide_false]
     exact .inl ⟨h0,rfl⟩
   ·obtain ⟨x0,hx0⟩ : ∃ x,w.mbs[0]? = some x:= by
     cases hp : w.mbs with
     | nil => exact absurd hp h0
     | cons x l => exact ⟨x,rfl⟩
    obtain ⟨⟨k0,_,hk0⟩,_⟩:= memOK hv hx0
    refine merge (F:= F12 w) (S:= fun E2 => ∃ cap r,w.lks.length ≤ cap ∧ DD r ∧ E2 = mkE [(1,.lp 1 0),(5,.lp 33 0)] [(1,netV w),(33,tC w (ONv w) (OFv w) (ATv w) (.ml 910 0 w.lks.length cap false 1) (.sl (.fr [120]) 1 [])),(910,nilR w.lks.length ++ r)]) (fun E hE => (fz12 w E hE).trans ?_) ?_ E' hE'
    ·rintro _ rfl
     refine VS.mono (VS.adopt (p:= .cell 33 10) (g:= false) 910 rfl (nilR_ne (by omega)) (nilR_row _) (by decide) rfl) ?_
     rintro _ ⟨cap,j,hc,rfl⟩
     rw [nilR_cells]
     simp only [mkE_strip]
     simp only [go_sem,strip_net,tC,ONv,OFv,ATv]
     rw [set_cell (cs:= tC w (ONv w) (OFv w) (ATv w) (.sl .gone 1 (nilR w.lks.length)) (.sl (.fr [120]) 1 [])) (by simp only [go_sem]; rfl)]
     simp only [mkE_putc]
     simp only [go_sem,tC,List.set_cons_succ,List.set_cons_zero,nilR_len] at hc ⊢
     exact ⟨cap,_,hc,DD.rep j,rfl⟩
    ·rintro _ ⟨cap,r1,hc,hr1,rfl⟩
     simp only [go_sem,tC,netV,List.length_map]
     refine aw_loop (fun m E => ∃ i : Nat,i + m = w.mbs.length ∧ E = mkE [(1,.lp 1 0),(5,.lp 33 0),(87,.sl .none 4 (w.mbs.map avMb)),(88,.lit (.int .i64 (w.mbs.length : Nat))),(89,.lit (.int .i64 (i : Nat)))] [(1,netV w),(33,tC w (ONv w) (OFv w) (ATv w) (.ml 910 0 w.lks.length cap false 1) (.sl (.fr [120]) 1 (((w.mbs.take i).map fun x => x.g).map avU))),(910,rowsT 110 (fun j => idxK (mbQ w j) i) w.lks.length ++ r1)]) w.mbs.length ?_ ?_
     ·refine ⟨0,by omega,?_⟩
      simp only [idxK_zero,rowsT_nil]
      simp only [go_sem,Int.natCast_zero]
      rfl
     ·rintro m _ ⟨i,hi,rfl⟩
      by_cases hil : i < w.mbs.length
      ·have f1 : ((i : Int) < (w.mbs.length : Int)) = True:= eq_true (by omega)
       obtain ⟨x,hx⟩ : ∃ x,w.mbs[i]? = some x:= ⟨w.mbs[i],List.getElem?_eq_getElem hil⟩
       obtain ⟨⟨k,hk,hkl⟩,_⟩:= memOK hv hx
       have hw:= wrap_succ i (by omega)
       have ld1 : ∀ (f : Nat → List Nat),aval.ld false 1 ((rowsT 110 f w.lks.length ++ r1).drop k) = some (slI [110,k] (f k)):= fun f => by
        rw [ld_drop,List.getElem?_append_left (by rw [rowsT_len]; exact hkl)]
        exact rowsT_get 110 f _ k hkl
       have q1 : ((k : Int) < (w.lks.length : Int)) = True:= eq_true (by omega)
       simp only [go_sem,f1,decide_true,tC,ONv,OFv,ATv,hx,Int.toNat_natCast,Int.natCast_nonneg,List.getElem?_map,rowAgg,avMb,avU,hk,q1,Nat.zero_add,Nat.mul_one,ld1]
       have hl1:= idxK_len (mbQ w k) i
       have a1 : k + 1 ≤ (rowsT 110 (fun j => idxK (mbQ w j) i) w.lks.length ++ r1).length:= by rw [List.length_append,rowsT_len]; omega
       have a2 : k + 1 ≤ (stripL [110,k] (rowsT 110 (fun j => idxK (mbQ w j) i) w.lks.length) ++ r1).length:= by rw [List.length_append,stripL_map,List.length_map,rowsT_len]; omega
       have p1:= fun y => put_set (rowsT 110 (fun j => idxK (mbQ w j) i) w.lks.length) r1 k y (by rw [rowsT_len]; exact hkl)
       have p2:= fun y => put_set (stripL [110,k] (rowsT 110 (fun j => idxK (mbQ w j) i) w.lks.length)) r1 k y (by rw [stripL_map,List.length_map,rowsT_len]; exact hkl)
       refine cutR (mkE [(1,.lp 1 0),(5,.lp 33 0),(9,.lp 9 0),(87,.sl .none 4 (w.mbs.map avMb)),(88,.lit (.int .i64 (w.mbs.length : Nat))),(89,avI i)] [(1,netV w),(9,[avI k,avU x.g,.lit (.bool x.only),.sl .none 1 (x.src.map avU)]),(33,tC w (ONv w) (OFv w) (ATv w) (.ml 910 0 w.lks.length cap false 1) (.sl (.fr [120]) 1 (((w.mbs.take i).map fun x => x.g).map avU))),(910,(rowsT 110 (fun j => idxK (mbQ w j) i) w.lks.length).set k (.sl (.own [110]) 1 ((idxK (mbQ w k) i ++ [i]).map avI)) ++ r1)]) ?_ ?_
       ·by_cases hn : idxK (mbQ w k) i = []
        ·have e1 : slI [110,k] (idxK (mbQ w k) i) = .sl .nil 0 []:= by rw [slI,if_pos hn]
         rw [e1,avApp_nil 1 8 0 [] [] [AV.lit (.int .i64 (i : Nat))] _ (by simp) (by decide)]
         simp only [go_sem,q1,Int.toNat_natCast,Int.natCast_nonneg,Nat.zero_add,Nat.mul_one,a1,p1,hn,List.nil_append,List.map_cons,List.map_nil]
         rfl
        ·have e1 : slI [110,k] (idxK (mbQ w k) i) = .sl (.own [110,k]) 1 ((idxK (mbQ w k) i).map avI):= by rw [slI,if_neg hn]
         rw [e1,avApp_own 1 8 [] [110,k] _ [AV.lit (.int .i64 (i : Nat))] _ (by simp; omega) (by decide) rfl]
         simp only [go_sem,q1,Int.toNat_natCast,Int.natCast_nonneg,Nat.zero_add,Nat.mul_one,hr1.strip,a2,p2,strip_set,List.map_append,List.map_cons,List.map_nil]
         rfl
       ·have eG : ∀ s c,avApp 1 4 [] 120 s c (.sl (.fr [120]) 1 (((w.mbs.take i).map fun x => x.g).map avU)) (.sl (.own [119]) 1 [.lit (.int .u32 (x.g : Nat))]) = _:= fun s c => avApp_fr 1 4 [] [120] _ [.lit (.int .u32 (x.g : Nat))] _ (by simp; omega) (by decide) rfl
        have gS : (((w.mbs.take i).map fun x => x.g).map avU) ++ [AV.lit (.int .u32 (x.g : Nat))] = (((w.mbs.take (i + 1)).map fun x => x.g).map avU):= by rw [take_succ_map _ hx,List.map_append]; rfl
        have sr:= strip_rows_set [120] 110 (fun j => idxK (mbQ w j) i) w.lks.length k
        simp only [go_sem,tC,ONv,OFv,ATv,avI,avU,eG,gS,strip_net,hr1.strip,sr _ (fun j => by simp) (by simp)]
        have g1 : rowsT 110 (fun j => if j = k then idxK (mbQ w k) i ++ [i] else idxK (mbQ w j) i) w.lks.length = rowsT 110 (fun j => idxK (mbQ w j) (i + 1)) w.lks.length:= rowsT_congr fun j _ => by
         by_cases hjk : j = k
         ·subst hjk
          simp [idxK_succ,mbQ,hx,hk]
         ·have : (x.lk == (j : Int)) = false:= by simp [hk]; omega
          simp [idxK_succ,mbQ,hx,hjk,this]
        refine shiftX_of (S:= fun E' => E' = mkE [(1,.lp 1 0),(5,.lp 33 0),(87,.sl .none 4 (w.mbs.map avMb)),(88,.lit (.int .i64 (w.mbs.length : Nat))),(89,avI i)] [(1,netV w),(9,[avI k,avU x.g,.lit (.bool x.only),.sl .none 1 (x.src.map avU)]),(33,tC w (ONv w) (OFv w) (ATv w) (.ml 910 0 w.lks.length cap false 1) (.sl (.fr [120]) 1 (((w.mbs.take (i + 1)).map fun x => x.g).map avU))),(910,rowsT 110 (fun j => idxK (mbQ w j) (i + 1)) w.lks.length ++ r1)]) ?_ ?_
        ·refine VS.mono (VS.relab [110] [110,k]) ?_
         rintro _ rfl
         have s1:= relab_set 110 (fun j => idxK (mbQ w j) i) w.lks.length k (idxK (mbQ w k) i ++ [i]) hkl (by simp)
         simp only [mkE_relab]
         simp only [go_sem,hr1.relab,relab_net,s1,g1]
         rfl
        ·rintro _ rfl
         simp only [go_sem,avI,avU,tC,ONv,OFv,ATv,hw,hr1.kill,kill_rows,kill_net]
         exact ⟨m - 1,by omega,i + 1,by omega,rfl⟩
      ·have f1 : ((i : Int) < (w.mbs.length : Int)) = False:= eq_false (by omega)
       obtain rfl : i = w.mbs.length:= by omega
       simp only [go_sem,f1,decide_false,List.take_length]
       exact .inr ⟨cap,r1,hc,hr1,rfl⟩
  ·intro E2 hE2
   rw [aw_seq',aw_seq']
   refine cutA (F23 w) ?_ ?_
   ·refine merge (F:= F18 w) (fz18 w) ?_ E2 hE2
    rintro _ rfl
    simp only [go_sem,tC,netV,List.length_map]
    refine aw_loop (fun m E => ∃ i : Nat,i + m = w.scs.length ∧ E = mkE [(5,.lp 33 0),(125,.sl .none 3 (w.scs.map avSource)),(126,.lit (.int .i64 (w.scs.length : Nat))),(127,.lit (.int .i64 (i : Nat)))] [(1,netV w),(33,tC w (ONv w) (OFv w) (ATv w) (MBv w) (.sl (.fr [140]) 1 ((mgs w ++ sgs w i).map avU)))]) w.scs.length ?_ ?_
    ·refine ⟨0,by omega,?_⟩
     simp only [go_sem,Int.natCast_zero,sgs,List.take_zero,List.map_nil,List.append_nil]
     rfl
    ·rintro m _ ⟨i,hi,rfl⟩
     by_cases hil : i < w.scs.length
     ·have f1 : ((i : Int) < (w.scs.length : Int)) = True:= eq_true (by omega)
      obtain ⟨x,hx⟩ : ∃ x,w.scs[i]? = some x:= ⟨w.scs[i],List.getElem?_eq_getElem hil⟩
      have hw:= wrap_succ i (by omega)
      have hml : (mgs w ++ sgs w i).length ≤ 100:= by simp [mgs,sgs]; omega
      have eG : ∀ s c,avApp 1 4 [] 140 s c (.sl (.fr [140]) 1 ((mgs w ++ sgs w i).map avU)) (.sl (.own [139]) 1 [.lit (.int .u32 (x.g : Nat))]) = _:= fun s c => avApp_fr 1 4 [] [140] _ [.lit (.int .u32 (x.g : Nat))] _ (by rw [List.length_map]; simp only [List.length_cons,List.length_nil]; omega) (by decide) rfl
      have gS : ((mgs w ++ sgs w i).map avU) ++ [AV.lit (.int .u32 (x.g : Nat))] = (mgs w ++ sgs w (i + 1)).map avU:= by rw [sgs,sgs,take_succ_map _ hx,← List.append_assoc,List.map_append (l₁:= mgs w ++ _)]; rfl
      simp only [go_sem,f1,decide_true,tC,ONv,OFv,ATv,MBv,hx,Int.toNat_natCast,Int.natCast_nonneg,List.getElem?_map,rowAgg,avSource,avU]
      simp only [go_sem,eG,gS,strip_net,hw,kill_net]
      exact ⟨m - 1,by omega,i + 1,by omega,rfl⟩
     ·have f1 : ((i : Int) < (w.scs.length : Int)) = False:= eq_false (by omega)
      obtain rfl : i = w.scs.length:= by omega
      simp only [go_sem,f1,decide_false]
      exact rfl
   ·rintro _ rfl
    rw [gsL_eq]
    have hgl : (gsL w).length ≤ 32:= by simp [gsL,mgs]; omega
    simp only [go_sem]
    by_cases h0 : gsL w = []
    ·refine shiftX_of (VS.tell (p:= .cell 33 11) (y:= .sl .none 1 []) (by rw [h0]; rfl) fun F v h => rep_sl0 h) ?_
     rintro _ rfl
     rw [set_cell (cs:= tC w (ONv w) (OFv w) (ATv w) (MBv w) (.sl (.fr [140]) 1 ((gsL w).map avU))) (by simp only [go_sem])]
     simp only [go_sem,tC,List.set_cons_succ,List.set_cons_zero,ONv,OFv,ATv,MBv]
     refine callX_of (C_Sort0 _ _) ?_
     simp only [go_sem]
     refine callX_of (C_Compact0 _) ?_
     simp only [go_sem]
     have e0 : (rise (zs [])).map aI = []:= by simp [rise,zs,dd]
     simp only [topoV,tC,h0,ONv,OFv,MBv,e0]
    ·have hz0 : zs (gsL w) ≠ []:= by simpa [zs] using h0
     have hzl : (zs (gsL w)).length = (gsL w).length:= by simp [zs]
     simp only [← zs_av]
     rw [← hzl] at hgl
     refine shiftX_of (VS.adopt (p:= .cell 33 11) (g:= false) 0 rfl (by simpa using hz0) (fun r hr => ?_) (by decide) rfl) ?_
     ·obtain ⟨n,_,rfl⟩:= List.mem_map.1 hr
      rfl
     rintro _ ⟨cap,j,hcap,rfl⟩
     rw [cells_ints]
     simp only [List.length_map] at hcap ⊢
     simp only [mkE_strip]
     simp only [go_sem,strip_net,tC,ONv,OFv,ATv,MBv]
     rw [set_cell (cs:= tC w (ONv w) (OFv w) (ATv w) (MBv w) (.sl .gone 1 ((zs (gsL w)).map aI))) (by simp only [go_sem]; rfl)]
     simp only [mkE_putc]
     simp only [go_sem,tC,List.set_cons_succ,List.set_cons_zero]
     have ht : Tl (List.replicate j .dead):= fun x hx => .inl (List.eq_of_mem_replicate hx)
     generalize List.replicate j AV.dead = tl at ht ⊢
     have hS:= C_SortL (cap:= cap) ht (show (zs (gsL w)).length ≤ 255 by omega)
     have hm : ((zs (gsL w)).mergeSort (fun x y => decide (x ≤ y))).length = (zs (gsL w)).length:= List.length_mergeSort _
     have hC:= C_Compact (d:= ((zs (gsL w)).mergeSort (fun x y => decide (x ≤ y))).toArray) (cap:= cap) ht (by simp [hm]; omega) (by simp [hm]; omega)
     rw [show dC ((zs (gsL w)).mergeSort (fun x y => decide (x ≤ y))).toArray tl = ((zs (gsL w)).mergeSort (fun x y => decide (x ≤ y))).map aI ++ tl by simp [dC]] at hC
     simp only [List.size_toArray,hm] at hC
     rw [show dd ((zs (gsL w)).mergeSort (fun x y => decide (x ≤ y))) = rise (zs (gsL w)) from rfl] at hC
     have hle : (rise (zs (gsL w))).length ≤ (zs (gsL w)).length:= by
      have:= dd_len ((zs (gsL w)).mergeSort (fun x y => decide (x ≤ y)))
      rw [List.length_mergeSort] at this
      exact this
     have hT : topoV w = tC w (ONv w) (OFv w) (.mp (keysP w w.pts.length) (valsP w.pts.length)) (MBv w) (.sl .none 1 ((rise (zs (gsL w))).map aI)):= rfl
     rw [hT]
     generalize (zs (gsL w)).mergeSort (fun x y => decide (x ≤ y)) = l' at hS hC
     generalize rise (zs (gsL w)) = r at hC hle ⊢
     generalize zs (gsL w) = z at hS hC hle hcap ⊢
     refine call0c_of ht rfl hS ?_
     simp only [go_sem]
     refine call0c_of ht rfl hC ?_
     simp only [go_sem,ONv,OFv,MBv]
     have hret : ∀ C,retM C 6 0 r.length cap false 1 (some (r.map aI ++ (List.replicate (z.length - r.length) (aI 0) ++ tl))) = some (.sl .none 1 (r.map aI)):= by
      intro C
      rw [retM_some (l:= r.map aI) 0 r.length cap false 1 _ (show 0 + r.length * 1 ≤ (r.map aI ++ (List.replicate (z.length - r.length) (aI 0) ++ tl)).length ∧ r.length ≤ cap ∧ (false = true ∨ (1 : Nat) = 1) from ⟨by simp,by omega,.inr rfl⟩) ?_,chunk_ints]
      rw [List.drop_zero,Nat.mul_one,List.take_append_of_le_length (by simp),List.take_of_length_le (by simp)]
      refine mapO_id fun x hx => ?_
      obtain ⟨n,_,rfl⟩:= List.mem_map.1 hx
      rfl
     simp only [hret]
     simp only [go_sem,ATv,tC]
end Go.Proofs.YtnndbbmidoidpaaGreatDoor.VL
end

section
set_option maxHeartbeats 4000000
namespace Go.Proofs.YtnndbbmidoidpaaGreatDoor.VL
open Go.RowKit Go.Proofs
def atF (f : Nat → List Nat) (n : Nat) (i : Int) : List Nat:= if 0 ≤ i ∧ i < (n : Int) then f i.toNat else []
theorem rowsN_get (f : Nat → List Nat) (n j : Nat) (h : j < n) : (rowsN f n)[j]? = some (if f j = [] then .sl .nil 0 [] else .sl .none 1 ((f j).map avI)):= by simp [rowsN,h]
theorem C_list (f : Nat → List Nat) (n : Nat) (i : Int) (hn : n ≤ 4294967296) (hf : ∀ j,(f j).length ≤ 4294967296) : AC Tryz.prog f_q48 [.sl .none 1 (rowsN f n),.lit (.int .i64 i)] (.sl .none 1 ((atF f n i).map avI)):= by
 by_cases h0 : i < 0
 ·have e : atF f n i = []:= if_neg (by omega)
  rw [e]
  refine AC_weak (r:= .sl .nil 0 []) (ac_q48 ?_ (Nat.le_add_left 2 _)) (fun E v h => rep_sl0 h)
  simp only [go_sem,c_q48,h0,decide_true]
 by_cases h1 : (n : Int) ≤ i
 ·have e : atF f n i = []:= if_neg (by omega)
  rw [e]
  refine AC_weak (r:= .sl .nil 0 []) (ac_q48 ?_ (Nat.le_add_left 2 _)) (fun E v h => rep_sl0 h)
  simp only [go_sem,c_q48,h0,h1,rowsN_len,decide_true,decide_false]
 obtain ⟨j,rfl⟩ : ∃ j : Nat,i = (j : Int):= ⟨i.toNat,by omega⟩
 have e : atF f n j = f j:= by simp only [atF]; rw [if_pos (by omega)]; simp
 have hg:= rowsN_get f n j (by omega)
 rw [e]
 refine ac_q48 ?_ (Nat.le_add_left 2 _)
 by_cases hj : f j = []
 ·rw [if_pos hj] at hg
  have hr:= fun e => avRow_some 1 .none (AV.sl .nil e []) rfl
  simp only [go_sem,c_q48,h0,h1,rowsN_len,decide_false,hg,hr,Int.natCast_nonneg,Int.toNat_natCast]
  refine callX_of (K0_Int _ _) ?_
  simp only [go_sem,hj,List.map_nil]
 ·rw [if_neg hj] at hg
  have hr:= fun e rows => avRow_some 1 .none (AV.sl .none e rows) rfl
  simp only [go_sem,c_q48,h0,h1,rowsN_len,decide_false,hg,hr,Int.natCast_nonneg,Int.toNat_natCast]
  refine callX_of (K_Int _ (by simpa using hf j)) ?_
  simp only [go_sem]
def onW (w : NW) (i : Int) : List Nat:= atF (fun j => idxK (onQ w j) w.pts.length) w.lks.length i
def ofW (w : NW) (i : Int) : List Nat:= atF (fun j => idxK (ofQ w j) w.pts.length) w.rts.length i
def mbW (w : NW) (i : Int) : List Nat:= atF (fun j => idxK (mbQ w j) w.mbs.length) w.lks.length i
section
variable (w : NW) (hf : w.Fit)
include hf
theorem C_On (i : Int) : AC Tryz.prog f_q15 [.rp (topoV w),.lit (.int .i64 i)] (.sl .none 1 ((onW w i).map avI)):= by
 refine ac_q15 ?_ (Nat.le_add_left 2 _)
 simp only [go_sem,c_q15,topoV,tC,ONv]
 refine callX_of (C_list _ _ i hf.l2 fun j => Nat.le_trans (idxK_len _ _) hf.l3) ?_
 simp only [go_sem,onW]
theorem C_OfT (i : Int) : AC Tryz.prog f_q16 [.rp (topoV w),.lit (.int .i64 i)] (.sl .none 1 ((ofW w i).map avI)):= by
 refine ac_q16 ?_ (Nat.le_add_left 2 _)
 simp only [go_sem,c_q16,topoV,tC,OFv]
 refine callX_of (C_list _ _ i hf.l1 fun j => Nat.le_trans (idxK_len _ _) hf.l3) ?_
 simp only [go_sem,ofW]
end
def atP (w : NW) (a : Nat) : Option Nat:= w.pts.findIdx? fun p => p.a == a
theorem keyAt_find (a : Nat) : ∀ (l : List NPt) (i : Nat),keyAt false (.int .u32 (a : Nat)) (l.map fun p => Value.int .u32 (p.a : Nat)) i = some ((l.findIdx? fun p => p.a == a).map (· + i))
 | [],i => rfl
 | x :: l,i => by
  have ih:= keyAt_find a l (i + 1)
  have e : ((a : Int) == (x.a : Int)) = (x.a == a):= by rw [nat_beqb,Bool.eq_iff_iff]; simp only [beq_iff_eq]; exact eq_comm
  simp only [List.map_cons,keyAt,keyEq,if_true,e,List.findIdx?_cons]
  cases hx : x.a == a
  ·simp only [ih,Bool.false_eq_true,if_false,Option.map_map]
   congr 2
   funext j
   simp only [Function.comp]
   omega
  ·simp
theorem valsP_get (n i : Nat) (h : i < n) : (valsP n)[i]? = some (avI i):= by simp [valsP,h]
theorem atP_lt {w : NW} {a i : Nat} (h : atP w a = some i) : ∃ p,w.pts[i]? = some p ∧ p.a = a:= by
 obtain ⟨hi,hp,_⟩:= List.findIdx?_eq_some_iff_getElem.1 h
 exact ⟨w.pts[i],List.getElem?_eq_getElem hi,by simpa using hp⟩
theorem C_At (w : NW) (a : Nat) : AC Tryz.prog f_q11 [.rp (topoV w),avU a] (.tup [avI ((atP w a).getD 0),.lit (.bool (atP w a).isSome)]):= by
 have hk : keyAt false (.int .u32 (a : Nat)) (keysP w w.pts.length) 0 = some (atP w a):= by
  have:= keyAt_find a w.pts 0
  simp only [Nat.add_zero] at this
  rw [keysP,List.take_length,this]
  unfold atP
  cases List.findIdx? (fun p => p.a == a) w.pts <;> rfl
 refine ac_q11 ?_ (Nat.le_add_left 2 _)
 cases hp : atP w a with
 | none =>
  rw [hp] at hk
  simp only [go_sem,c_q11,topoV,tC,avU,mapGet,hk]
  rfl
 | some i =>
  rw [hp] at hk
  obtain ⟨p,hx,_⟩:= atP_lt hp
  have hv:= valsP_get w.pts.length i (List.getElem?_eq_some_iff.1 hx).1
  simp only [go_sem,c_q11,topoV,tC,avU,mapGet,hk,hv]
  rfl
end Go.Proofs.YtnndbbmidoidpaaGreatDoor.VL
end

section
set_option maxHeartbeats 4000000
namespace Go.Proofs.YtnndbbmidoidpaaGreatDoor.VL
open Go.RowKit Go.Proofs
def Wk (x y : AV) : Prop:= ∀ E v,Rep E x v → Rep E y v
def WkL : List AV → List AV → Prop
 | [],[] => True
 | x :: xs,y :: ys => Wk x y ∧ WkL xs ys
 | _,_ => False
theorem Wk.rfl (x : AV) : Wk x x:= fun _ _ h => h
theorem wk_nil (e e' : Nat) : Wk (.sl .nil e []) (.sl .none e' []):= fun E v h => rep_sl0 h
theorem wkL_rep : ∀ {xs ys : List AV},WkL xs ys → ∀ {E : RE} {vs : List Value},RepL E xs vs → RepL E ys vs
 | [],[],_,E,vs,h => h
 | x :: xs,y :: ys,hw,E,vs,h => by
  simp only [RepL] at h ⊢
  obtain ⟨v,ws,e,h1,h2⟩:= h
  exact ⟨v,ws,e,hw.1 E v h1,wkL_rep hw.2 h2⟩
 | [],_ :: _,hw,_,_,_ => hw.elim
 | _ :: _,[],hw,_,_,_ => hw.elim
theorem wk_agg {xs ys : List AV} (h : WkL xs ys) : Wk (.agg xs) (.agg ys):= fun E v hr => by
 simp only [Rep] at hr ⊢
 obtain ⟨vs,e,hr⟩:= hr
 exact ⟨vs,e,wkL_rep h hr⟩
theorem AC.wk {P : Program} {f : FuncId} {xs ys : List AV} {r : AV} (h : AC P f ys r) (hw : WkL xs ys) : AC P f xs r:= h.conv fun E vs hr => wkL_rep hw hr
theorem vfit {w : NW} (hv : vNet w = none) : w.Fit:= by
 have z1 : w.rts.length ≤ 16:= len_le hv 0 (by decide)
 have z2 : w.lks.length ≤ 24:= len_le hv 1 (by decide)
 have z3 : w.pts.length ≤ 64:= len_le hv 2 (by decide)
 have z4 : w.ros.length ≤ 96:= len_le hv 3 (by decide)
 have z5 : w.rgs.length ≤ 8:= len_le hv 4 (by decide)
 have z6 : w.scs.length ≤ 8:= len_le hv 5 (by decide)
 have z7 : w.mbs.length ≤ 24:= len_le hv 6 (by decide)
 refine ⟨by omega,by omega,by omega,by omega,by omega,by omega,by omega,fun x hx => ?_⟩
 obtain ⟨i,hi⟩:= List.getElem?_of_mem hx
 have:= (memOK hv hi).few
 omega
def w0 : NW:= ⟨[],[],[],[],[],[],[]⟩
theorem w0_ok : w0.OK:= by
 constructor <;> first | (intro x hx; exact absurd hx (by simp [w0])) | (simp [w0])
theorem w0_v : vNet w0 = none:= rfl
def nils : List AV:= [.sl .nil 0 [],.sl .nil 0 [],.sl .nil 0 [],.sl .nil 0 [],.sl .nil 0 [],.sl .nil 0 [],.sl .nil 0 []]
theorem C_New0 : AC Tryz.prog f_q8 [.agg nils] (.tup [.rp (topoV w0),.lit .nilIface]) :=
 (C_New w0 w0_ok (vfit w0_v) w0_v).wk ⟨wk_agg ⟨wk_nil _ _,wk_nil _ _,wk_nil _ _,wk_nil _ _,wk_nil _ _,wk_nil _ _,wk_nil _ _,trivial⟩,trivial⟩
theorem mem_dd {a : Int} : ∀ {l : List Int},a ∈ dd l ↔ a ∈ l
 | [] => Iff.rfl
 | [b] => Iff.rfl
 | b :: c :: t => by
  have ih : a ∈ dd (c :: t) ↔ a ∈ c :: t:= mem_dd
  simp only [dd]
  by_cases h : b = c
  ·rw [if_pos h,ih,h]
   simp
  ·rw [if_neg h,List.mem_cons,ih,List.mem_cons (a:= a) (b:= b)]
theorem mem_rise {a : Int} {l : List Int} : a ∈ rise l ↔ a ∈ l:= by
 rw [rise,mem_dd,List.mem_mergeSort]
abbrev Rising (l : List Int) : Prop:= l.Pairwise (· < ·)
theorem dd_rising : ∀ {l : List Int},l.Pairwise (· ≤ ·) → Rising (dd l)
 | [],_ => List.Pairwise.nil
 | [a],_ => by simp [dd,Rising]
 | a :: b :: t,h => by
  have h2:= List.pairwise_cons.1 h
  have ih:= dd_rising h2.2
  simp only [dd]
  by_cases e : a = b
  ·rw [if_pos e]; exact ih
  ·rw [if_neg e]
   refine List.pairwise_cons.2 ⟨fun x hx => ?_,ih⟩
   rw [mem_dd] at hx
   have h3:= h2.1 b List.mem_cons_self
   rcases List.mem_cons.1 hx with rfl | hx
   ·omega
   ·have:= (List.pairwise_cons.1 h2.2).1 x hx
    omega
theorem rise_rising (l : List Int) : Rising (rise l):= by
 refine dd_rising ?_
 have:= List.pairwise_mergeSort (le:= fun x y : Int => decide (x ≤ y)) (fun a b c h1 h2 => by simp at h1 h2 ⊢; omega) (fun a b => by simp; omega) l
 exact this.imp fun h => by simpa using h
theorem rise_len (l : List Int) : (rise l).length ≤ l.length:= by
 have:= dd_len (l.mergeSort (fun x y => decide (x ≤ y)))
 rw [List.length_mergeSort] at this
 exact this
end Go.Proofs.YtnndbbmidoidpaaGreatDoor.VL
end

section
set_option maxHeartbeats 4000000
namespace Go.Proofs.YtnndbbmidoidpaaGreatDoor.VL
open Go.RowKit Go.Proofs
theorem C_Groups (w : NW) (hl : (rise (zs (gsL w))).length ≤ 4294967296) : AC Tryz.prog f_q22 [.rp (topoV w)] (.sl .none 1 ((rise (zs (gsL w))).map aI)):= by
 refine ac_q22 ?_ (Nat.le_add_left 1 _)
 simp only [go_sem,c_q22,topoV,tC]
 refine callX_of (K_Addr _ (by simpa using hl)) ?_
 simp only [go_sem]
theorem C_first8 : AC Tryz.prog f_q6 [] (.lit (.bool true)):= by
 refine ac_q6 ?_ (Nat.zero_le _)
 simp only [go_sem,c_q6]
 refine callX_of C_New0 ?_
 simp only [go_sem]
 refine callX_of (C_Groups w0 (by simp [gsL,mgs,w0,rise,zs,dd])) ?_
 have e : (rise (zs (gsL w0))).map aI = []:= by simp [gsL,mgs,w0,rise,zs,dd]
 simp only [go_sem,e,List.length_nil]
 rfl
end Go.Proofs.YtnndbbmidoidpaaGreatDoor.VL
end

section
set_option maxHeartbeats 4000000
namespace Go.Proofs.YtnndbbmidoidpaaGreatDoor.VL
open Go.RowKit Go.Proofs
theorem mem_idx {q : Nat → Bool} {k i : Nat} : i ∈ idxK q k ↔ i < k ∧ q i = true:= by simp [idxK]
theorem mbW_le (w : NW) (i : Int) : (mbW w i).length ≤ w.mbs.length:= by
 simp only [mbW,atF]
 split
 ·exact idxK_len _ _
 ·exact Nat.zero_le _
theorem set_slot {s : List (Nat × AV)} {c : List (Nat × List AV)} {k : Nat} {x : AV} : (mkE s c).set (.slot k) x = mkE (putA s k x) c:= mkE_put s c k x
theorem map_avI (l : List Nat) : l.map avI = (l.map fun n : Nat => (n : Int)).map iI:= by
 rw [List.map_map]
 rfl
end Go.Proofs.YtnndbbmidoidpaaGreatDoor.VL
end

section
set_option maxHeartbeats 4000000
namespace Go.Proofs.YtnndbbmidoidpaaGreatDoor.VL
open Go.RowKit Go.Proofs
def othersW (w : NW) (x : NPt) : List Nat:= (onW w x.lk).filter fun j => !(match w.pts[j]? with | some y => y.rt == x.rt | none => false)
def othersI (w : NW) (p : Int) : List Nat:= if 0 ≤ p ∧ p < (w.pts.length : Int) then (match w.pts[p.toNat]? with | some x => othersW w x | none => []) else []
theorem onW_of {w : NW} (hv : vNet w = none) {i : Nat} {x : NPt} (hx : w.pts[i]? = some x) : ∃ k : Nat,x.lk = (k : Int) ∧ k < w.lks.length ∧ onW w x.lk = idxK (onQ w k) w.pts.length:= by
 obtain ⟨k,hk,hkl⟩:= (portOK hv hx).lk
 refine ⟨k,hk,hkl,?_⟩
 simp only [onW,atF,hk]
 rw [if_pos (by omega)]
 simp
theorem onW_le (w : NW) (i : Int) : (onW w i).length ≤ w.pts.length:= by
 simp only [onW,atF]
 split
 ·exact idxK_len _ _
 ·exact Nat.zero_le _
theorem ofW_le (w : NW) (i : Int) : (ofW w i).length ≤ w.pts.length:= by
 simp only [ofW,atF]
 split
 ·exact idxK_len _ _
 ·exact Nat.zero_le _
end Go.Proofs.YtnndbbmidoidpaaGreatDoor.VL
end

section
set_option maxHeartbeats 4000000
namespace Go.Proofs.YtnndbbmidoidpaaGreatDoor.VL
open Go.RowKit Go.Proofs
structure KI (p : Nat → Bool) (o : List Nat) (j k : Nat) (x : List Nat) : Prop where
 size : x.length = o.length
 lt : k < j
 le : j ≤ o.length
 pre : x.take k = (o.take j).filter fun n => !p n
 post : ∀ i,j ≤ i → x[i]? = o[i]?
theorem filter_take {p : Nat → Bool} {o : List Nat} {j a : Nat} (hj : o[j]? = some a) : (o.take (j + 1)).filter p = (o.take j).filter p ++ if p a then [a] else []:= by
 rw [List.take_add_one,hj,Option.toList_some,List.filter_append,List.filter_cons,List.filter_nil]
theorem KI.del {p : Nat → Bool} {o x : List Nat} {j k a : Nat} (h : KI p o j k x) (hj : o[j]? = some a) (hp : p a = true) : KI p o (j + 1) k x:= by
 have hl:= (List.getElem?_eq_some_iff.1 hj).1
 have:= h.lt
 refine ⟨h.size,by omega,by omega,?_,fun i hi => h.post i (by omega)⟩
 rw [filter_take hj,hp,h.pre]
 simp
theorem KI.keep {p : Nat → Bool} {o x : List Nat} {j k a : Nat} (h : KI p o j k x) (hj : o[j]? = some a) (hp : p a = false) : KI p o (j + 1) (k + 1) (x.set k a):= by
 have hl:= (List.getElem?_eq_some_iff.1 hj).1
 have h1:= h.lt
 have h2:= h.size
 refine ⟨by rw [List.length_set,h2],by omega,by omega,?_,fun i hi => ?_⟩
 ·rw [filter_take hj,hp,List.take_add_one,List.getElem?_set_self (by omega),List.take_set_of_le (Nat.le_refl k),h.pre]
  simp
 ·rw [List.getElem?_set_ne (by omega)]
  exact h.post i (by omega)
theorem KI.fin {p : Nat → Bool} {o x : List Nat} {k : Nat} (h : KI p o o.length k x) : x.take k = o.filter (fun n => !p n) ∧ (o.filter fun n => !p n).length = k:= by
 have h1:= h.pre
 rw [List.take_length] at h1
 refine ⟨h1,?_⟩
 have:= h.lt
 have:= h.size
 rw [← h1,List.length_take]
 omega
theorem KI.start (p : Nat → Bool) (l : List Nat) : (idxOf p l = -1 ∧ l.filter (fun n => !p n) = l) ∨ ∃ i : Nat,i < l.length ∧ idxOf p l = (i : Int) ∧ KI p l (i + 1) i l:= by
 cases h : l.findIdx? p with
 | none =>
  refine .inl ⟨by rw [idxOf,h],?_⟩
  rw [List.findIdx?_eq_none_iff] at h
  rw [List.filter_eq_self]
  intro a ha
  simp [h a ha]
 | some i =>
  refine .inr ⟨i,?_⟩
  rw [List.findIdx?_eq_some_iff_getElem] at h
  have e : idxOf p l = (i : Int):= by
   rw [idxOf,List.findIdx?_eq_some_iff_getElem.2 h]
  obtain ⟨hi,hp,hall⟩:= h
  refine ⟨hi,e,rfl,by omega,by omega,?_,fun _ _ => rfl⟩
  rw [filter_take (List.getElem?_eq_getElem hi),hp]
  simp only [Bool.not_true,Bool.false_eq_true,if_false,List.append_nil]
  refine (List.filter_eq_self.2 fun a ha => ?_).symm
  obtain ⟨j,hj⟩:= List.getElem?_of_mem ha
  have hjl : j < i:= by
   have:= (List.getElem?_eq_some_iff.1 hj).1
   rw [List.length_take] at this
   omega
  rw [List.getElem?_take_of_lt hjl] at hj
  obtain ⟨hjL,ej⟩:= List.getElem?_eq_some_iff.1 hj
  have:= hall j hjl
  rw [ej] at this
  simpa using this
theorem C_IndexFuncI {f : FuncId} {fst caps : List AV} {asf : Nat → List AV} {p : Nat → Bool} (t : Tok) (e : Nat) (l : List Nat) (hf : frB t = false) (he : e = 1 ∨ l = []) (hl : l.length < 9223372036854775808)
    (hlow : ∀ n, mapO (lower (getC []) 8) (fst ++ [(avI n)] ++ caps) = some (asf n)) (hAC : ∀ n ∈ l, AC Tryz.prog f (asf n) (.lit (.bool (p n)))) :
    AC Tryz.prog f_q110 [.sl t e (l.map avI), .clo (.func f) fst caps] (.lit (.int .i64 (idxOf p l))) := by
  refine ac_q110 ?_ (Nat.le_add_left 2 17)
  simp only [go_sem, c_q110]
  refine aw_loop (fun m E => ∃ k, k + m = l.length ∧ (∀ (j : Nat) (y : Nat), j < k → l[j]? = some y → p y = false) ∧ E = mkE [(0, .sl t e (l.map avI)), (1, .clo (.func f) fst caps), (7, .lit (.int .i64 l.length)), (8, .lit (.int .i64 (k : Nat)))] []) l.length ?_ ?_
  · exact ⟨0, by omega, fun j y hj => absurd hj (Nat.not_lt_zero j), by simp only [go_sem, Int.ofNat_zero]⟩
  · rintro m _ ⟨k, hk, hall, rfl⟩
    simp only [go_sem]
    refine condX_of (fun h => ?_) (fun h => ?_)
    · have hkl : k < l.length := by simpa using h
      obtain rfl : e = 1 := he.resolve_right (fun h => by rw [h] at hkl; simp at hkl)
      obtain ⟨x, hx⟩ : ∃ x, l[k]? = some x := ⟨l[k], List.getElem?_eq_getElem hkl⟩
      have hw := wrap_succ k (by omega)
      have hlx := hlow x
      simp only [avI] at hlx
      simp only [go_sem, h, hx, Int.toNat_natCast, Int.natCast_nonneg, List.getElem?_map, avRow_some, hf, avI, hlx]
      refine callX_of (hAC x (List.mem_of_getElem? hx)) ?_
      cases hp : p x
      · simp only [go_sem, hw]
        refine ⟨m - 1, by omega, k + 1, by omega, fun j y hj hy => ?_, rfl⟩
        by_cases hjk : j = k
        · subst hjk
          rw [hx] at hy
          injection hy with hy
          rw [← hy]
          exact hp
        · exact hall j y (by omega) hy
      · simp only [go_sem, idxOf_some hx hp hall]
    · have hkl : k = l.length := by have : ¬ k < l.length := by simpa using h
                                    omega
      have e : idxOf p l = -1 := idxOf_none fun i x hi => hall i x (by have := (List.getElem?_eq_some_iff.1 hi).1; omega) hi
      simp only [go_sem, h, e]
theorem chunk_nats : ∀ l : List Nat,chunk false 1 l.length (l.map avI) = l.map avI
 | [] => rfl
 | a :: l => by simp only [List.length_cons,List.map_cons,chunk,List.take_succ_cons,List.take_zero,List.headD_cons,List.drop_succ_cons,List.drop_zero,chunk_nats l]
theorem cells_nats : ∀ l : List Nat,(l.map avI).flatMap cellsOf = l.map avI
 | [] => rfl
 | a :: l => by
  simp only [List.map_cons,List.flatMap_cons,cells_nats l]
  rfl
theorem lowM_ints {l : List Nat} {tl : List AV} {cap : Nat} (hc : l.length ≤ cap) : lowM l.length cap 0 false 1 (some (l.map avI ++ tl)) = some (.sl .bor 1 (l.map avI)):= by
 have h1 : 0 + l.length * 1 ≤ (l.map avI ++ tl).length ∧ l.length ≤ cap ∧ (false = true ∨ (1 : Nat) = 1):= ⟨by simp,hc,.inr rfl⟩
 have h2 : ((l.map avI ++ tl).drop 0).take (l.length * 1) = l.map avI:= by
  rw [List.drop_zero,Nat.mul_one,List.take_append_of_le_length (by simp),List.take_of_length_le (by simp)]
 have h3 : mapO closeV (l.map avI) = some (l.map avI):= mapO_id fun x hx => by
  obtain ⟨n,_,rfl⟩:= List.mem_map.1 hx
  rfl
 show (if 0 + l.length * 1 ≤ (l.map avI ++ tl).length ∧ l.length ≤ cap ∧ (false = true ∨ (1 : Nat) = 1) then (match mapO closeV (((l.map avI ++ tl).drop 0).take (l.length * 1)) with
  | some l' => some (AV.sl .bor 1 (chunk false 1 l.length l'))
  | none => none) else none) = _
 rw [if_pos h1,h2,h3]
 show some (AV.sl .bor 1 (chunk false 1 l.length (l.map avI))) = _
 rw [chunk_nats]
theorem ret_ints (C : Nat → Option (List AV)) (l : List Nat) {tl : List AV} (ht : Tl tl) : mapO (retv C false 8) (l.map avI ++ tl) = some (l.map avI ++ tl):= by
 refine mapO_id fun x hx => ?_
 rcases List.mem_append.1 hx with hx | hx
 ·obtain ⟨n,_,rfl⟩:= List.mem_map.1 hx
  rfl
 ·rcases ht x hx with rfl | ⟨v,rfl⟩ <;> rfl
theorem close_ints (l : List Nat) {tl : List AV} (ht : Tl tl) : mapO closeV (l.map avI ++ tl) = some (l.map avI ++ tl):= by
 refine mapO_id fun x hx => ?_
 rcases List.mem_append.1 hx with hx | hx
 ·obtain ⟨n,_,rfl⟩:= List.mem_map.1 hx
  rfl
 ·rcases ht x hx with rfl | ⟨v,rfl⟩ <;> rfl
theorem retC_ints {s : List (Nat × AV)} {l : List Nat} {tl : List AV} (ht : Tl tl) : retC (mkE s [(100000,l.map avI ++ tl)]) [100000] = some [(100000,l.map avI ++ tl)]:= by
 simp only [retC,mapO_cons,mapO_nil,mkE_c,getC_cons,↓reduceIte,ret_ints _ l ht,catO_some]
theorem C_DeleteFunc {f : FuncId} {fst caps : List AV} {asf : Nat → List AV} {p : Nat → Bool} {cap : Nat} {tl : List AV} (ht : Tl tl) (l : List Nat) (hc : l.length ≤ cap) (hl : l.length ≤ 4611686018427387904)
  (hfst : ∀ C,mapO (lower C 7) fst = some fst) (hcaps : ∀ C,mapO (lower C 7) caps = some caps)
  (hlow : ∀ C n,mapO (lower C 8) (fst ++ [avI n] ++ caps) = some (asf n)) (hAC : ∀ n ∈ l,AC Tryz.prog f (asf n) (.lit (.bool (p n)))) :
  AM Tryz.prog f_q49 [.ml 100000 0 l.length cap false 1,.clo (.func f) fst caps] [(100000,l.map avI ++ tl)] (.ml 100000 0 (l.filter fun n => !p n).length cap false 1)
   [(100000,(l.filter fun n => !p n).map avI ++ (List.replicate (l.length - (l.filter fun n => !p n).length) (avI 0) ++ tl))]:= by
 refine am_q49 ?_ (by simp) (Nat.le_add_left 2 _)
 have hI:= C_IndexFuncI (t:= .bor) (e:= 1) (p:= p) (fst:= fst) (caps:= caps) (f:= f) l rfl (.inl rfl) (by omega) (hlow _) hAC
 simp only [go_sem,env0M_mk,c_q49,List.map_cons,List.map_nil,lowM_ints hc,hfst,hcaps]
 refine callX_of hI ?_
 rcases KI.start p l with ⟨e1,e2⟩ | ⟨i,hi,e1,hK⟩
 ·have f0 : ((-1 : Int) == -1) = true:= rfl
  simp only [go_sem,e1]
  refine shiftX_refl ?_
  simp only [go_sem,f0,endM_n,endM_r,e2]
  rw [Nat.sub_self,List.replicate_zero,List.nil_append]
  exact retC_ints ht
 have f0 : ((i : Int) == -1) = false:= by simp
 have wi:= iwn (i + 1) (by omega : (i : Int) + 1 = ((i + 1 : Nat) : Int)) (by omega)
 simp only [go_sem,e1]
 refine shiftX_refl ?_
 simp only [go_sem,f0,wi]
 refine aw_loop (fun m E => ∃ (j k : Nat) (x : List Nat),KI p l j k x ∧ l.length - j ≤ m ∧ E = mkE [(0,.ml 100000 0 l.length cap false 1),(1,.clo (.func f) fst caps),(5,iI k),(6,iI j)] [(100000,x.map avI ++ tl)]) l.length ?_ ?_
 ·exact ⟨i + 1,i,l,hK,by omega,rfl⟩
 ·rintro m _ ⟨j,k,x,hx,hm,rfl⟩
  have hle:= hx.le
  have hlt:= hx.lt
  have hsz:= hx.size
  by_cases hjn : j < l.length
  ·have f4 : ((j : Int) < (l.length : Int)) = True:= eq_true (by omega)
   obtain ⟨a,ha⟩ : ∃ a,l[j]? = some a:= ⟨l[j],List.getElem?_eq_getElem hjn⟩
   have hxa : x[j]? = some a:= by rw [hx.post j (Nat.le_refl _)]; exact ha
   have w4:= iwn (j + 1) (by omega : (j : Int) + 1 = ((j + 1 : Nat) : Int)) (by omega)
   have w5:= iwn (k + 1) (by omega : (k : Int) + 1 = ((k + 1 : Nat) : Int)) (by omega)
   have b3 : (k : Int) < (l.length : Int):= by omega
   have g3 : aval.ld false 1 ((x.map avI ++ tl).drop j) = some (avI a):= by
    rw [ld_drop,List.getElem?_append_left (by rw [List.length_map]; omega),List.getElem?_map,hxa]
    rfl
   have l1 : k + 1 ≤ (x.map avI ++ tl).length:= by rw [List.length_append,List.length_map]; omega
   have s1:= put_set (x.map avI) tl k (avI a) (by rw [List.length_map]; omega)
   have s2 : (x.map avI).set k (avI a) = (x.set k a).map avI:= by rw [List.map_set]
   rw [s2] at s1
   have hlx:= hlow (getC [(100000,x.map avI ++ tl)]) a
   simp only [avI] at g3 hlx s1
   have hA:= hAC a (List.mem_of_getElem? ha)
   simp only [go_sem,f4,decide_true,g3,hlx,Int.natCast_nonneg,Int.toNat_natCast,Nat.zero_add,Nat.mul_one]
   refine callX_of hA ?_
   cases hp : p a
   ·simp only [go_sem,f4,decide_true,w4,w5,l1,s1,b3,Int.natCast_nonneg,Int.toNat_natCast,Nat.zero_add,Nat.mul_one]
    exact ⟨m - 1,by omega,j + 1,k + 1,_,hx.keep ha hp,by omega,rfl⟩
   ·simp only [go_sem,w4]
    exact ⟨m - 1,by omega,j + 1,k,x,hx.del ha hp,by omega,rfl⟩
  ·have f4 : ((j : Int) < (l.length : Int)) = False:= eq_false (by omega)
   obtain rfl : j = l.length:= by omega
   obtain ⟨hpre,hlen⟩:= hx.fin
   have hs1 : 0 ≤ (k : Int) ∧ (k : Int) ≤ (l.length : Int) ∧ (l.length : Int) ≤ (l.length : Int) ∧ ((k : Int) < cap ∨ (k : Int) = 0) ∧ l.length ≤ cap:= by omega
   have hs2 : 0 ≤ ((0 : Nat) : Int) ∧ ((0 : Nat) : Int) ≤ (k : Int) ∧ (k : Int) ≤ (l.length : Int) ∧ (((0 : Nat) : Int) < cap ∨ ((0 : Nat) : Int) = 0) ∧ l.length ≤ cap:= by omega
   have hcl : (1 : Nat) = [AV.lit (.int .i64 0)].length ∧ k + (l.length - k) * 1 ≤ (x.map avI ++ tl).length ∧ oneL [AV.lit (.int .i64 0)] = true:= ⟨rfl,by rw [List.length_append,List.length_map]; omega,rfl⟩
   have hce : (x.map avI ++ tl).take k ++ (List.replicate (l.length - k) [AV.lit (.int .i64 0)]).flatten ++ (x.map avI ++ tl).drop (k + (l.length - k)) = (l.filter fun n => !p n).map avI ++ (List.replicate (l.length - k) (avI 0) ++ tl):= by
    have e1 : (x.map avI ++ tl).take k = (l.filter fun n => !p n).map avI:= by
     rw [List.take_append_of_le_length (by simp; omega),← List.map_take,hpre]
    have e2 : (x.map avI ++ tl).drop (k + (l.length - k)) = tl:= List.drop_left' (by simp; omega)
    have e3 : ∀ n : Nat,(List.replicate n [AV.lit (.int .i64 0)]).flatten = List.replicate n (avI 0):= by
     intro n
     induction n with
     | zero => rfl
     | succ n ih => rw [List.replicate_succ,List.flatten_cons,ih]; rfl
    rw [e1,e2,e3,List.append_assoc]
   simp only [go_sem,f4,decide_false,avSlM_some 1 100000 0 l.length cap false (k : Int) (l.length : Int) hs1,avSlM_some 1 100000 0 l.length cap false ((0 : Nat) : Int) (k : Int) hs2,Int.toNat_natCast,Nat.zero_add,Nat.mul_one,Int.toNat_zero,Nat.zero_mul,Nat.sub_zero]
   simp only [go_sem,clrM_some (c:= [(100000,x.map avI ++ tl)]) [AV.lit (.int .i64 0)] 100000 k (l.length - k) 1 (x.map avI ++ tl) hcl,hce,avSlM_some 1 100000 0 l.length cap false ((0 : Nat) : Int) (k : Int) hs2,Int.toNat_natCast,Nat.zero_add,Nat.mul_one,Int.toNat_zero,Nat.zero_mul,Nat.sub_zero,endM_n,endM_r,hlen,true_and]
   exact retC_ints (by
    intro y hy
    rcases List.mem_append.1 hy with hy | hy
    ·exact .inr ⟨_,List.eq_of_mem_replicate hy⟩
    ·exact ht y hy)
theorem C_listF (f : Nat → List Nat) (n i : Nat) (hi : i < n) (hn : n ≤ 4294967296) (hf : ∀ j,(f j).length ≤ 4294967296) (h0 : f i ≠ []) : ∃ τ,AC Tryz.prog f_q48 [.sl .none 1 (rowsN f n),.lit (.int .i64 (i : Nat))] (.sl (.fr τ) 1 ((f i).map avI)):= by
 have f1 : ((i : Int) < 0) = False:= eq_false (by omega)
 have f2 : ((n : Int) ≤ (i : Int)) = False:= eq_false (by omega)
 have hg:= rowsN_get f n i hi
 rw [if_neg h0] at hg
 have hr:= fun e rows => avRow_some 1 .none (AV.sl .none e rows) rfl
 refine ⟨[17,7],ac_q48 ?_ (Nat.le_add_left 2 _)⟩
 simp only [go_sem,c_q48,f1,f2,rowsN_len,decide_false,hg,hr,Int.natCast_nonneg,Int.toNat_natCast]
 refine callX_of (KF_Int ((f i).map avI) (by simpa using h0) (by simpa using hf i)) ?_
 simp only [go_sem]
theorem C_OnF (w : NW) (hf : w.Fit) (i : Nat) (hi : i < w.lks.length) (h0 : idxK (onQ w i) w.pts.length ≠ []) : ∃ τ,AC Tryz.prog f_q15 [.rp (topoV w),.lit (.int .i64 (i : Nat))] (.sl (.fr τ) 1 ((idxK (onQ w i) w.pts.length).map avI)):= by
 obtain ⟨τ,h⟩:= C_listF (fun j => idxK (onQ w j) w.pts.length) w.lks.length i hi hf.l2 (fun j => Nat.le_trans (idxK_len _ _) hf.l3) h0
 refine ⟨10 :: τ,ac_q15 ?_ (Nat.le_add_left 2 _)⟩
 simp only [go_sem,c_q15,topoV,tC,ONv]
 refine callX_of h ?_
 simp only [go_sem]
theorem C_Others_1 (w : NW) (x : NPt) (j : Nat) (y : NPt) (hy : w.pts[j]? = some y) : AC Tryz.prog f_q50 [avI j,.bp [.rp (topoV w)],.bp [.lit (.int .i64 x.rt),.lit (.int .i64 x.lk),avU x.a]] (.lit (.bool (y.rt == x.rt))):= by
 refine ac_q50 ?_ (Nat.le_add_left 3 _)
 simp only [go_sem,c_q50,topoV,tC,avI,Int.natCast_nonneg,Int.toNat_natCast,List.getElem?_map,hy,Option.map_some,rowAgg,avPort,avU]
theorem call0i_of {P : Program} {dst : Option Nat} {os : List AOper} {s : List (Nat × AV)} {c' : List (Nat × List AV)} {K : Env → Prop} {f : FuncId} {raw al : List AV} {args : Option (List AV)} {r : AV} {l : List Nat} {tl y : List AV} (ht : Tl tl)
  (hl : mapO (lowerM [(0,100000)] (getC ((0,l.map avI ++ tl) :: c')) 8) raw = some al) (h : AM P f al [(100000,l.map avI ++ tl)] r [(100000,y)])
  (hk : awX false P os ((mkE s ((0,y) :: c')).putO dst (retag (dst.getD 0) (unlend [(0,100000)] r))) K) : callX false P dst os s ((0,l.map avI ++ tl) :: c') K f raw args:= by
 refine callM_of [(0,100000)] rfl hl ?_ h ?_
 ·show mapO _ _ = _
  simp only [mapO_cons,mapO_nil,getC_cons,↓reduceIte,close_ints l ht,catO_some]
 ·rw [back_0c]
  exact hk
theorem C_Others (w : NW) (hf : w.Fit) (hv : vNet w = none) (p : Int) : AC Tryz.prog f_q18 [.rp (topoV w),.lit (.int .i64 p)] (.sl .none 1 ((othersI w p).map avI)):= by
 by_cases h0 : p < 0
 ·have e : othersI w p = []:= if_neg (by omega)
  rw [e]
  refine AC_weak (r:= .sl .nil 0 []) (ac_q18 ?_ (Nat.le_add_left 2 _)) (fun E v h => rep_sl0 h)
  have f1 : (p < 0) = True:= eq_true h0
  simp only [go_sem,c_q18,f1,decide_true]
 have f1 : (p < 0) = False:= eq_false h0
 by_cases h1 : (w.pts.length : Int) ≤ p
 ·have e : othersI w p = []:= if_neg (by omega)
  rw [e]
  refine AC_weak (r:= .sl .nil 0 []) (ac_q18 ?_ (Nat.le_add_left 2 _)) (fun E v h => rep_sl0 h)
  have f2 : ((w.pts.length : Int) ≤ p) = True:= eq_true h1
  simp only [go_sem,c_q18,topoV,tC,List.length_map,f1,f2,decide_true,decide_false]
 have f2 : ((w.pts.length : Int) ≤ p) = False:= eq_false h1
 obtain ⟨q,rfl⟩ : ∃ q : Nat,p = (q : Int):= ⟨p.toNat,by omega⟩
 obtain ⟨x,hx⟩ : ∃ x,w.pts[q]? = some x:= ⟨w.pts[q]'(by omega),List.getElem?_eq_getElem (by omega)⟩
 have e : othersI w (q : Int) = othersW w x:= by
  simp only [othersI]
  rw [if_pos (by omega),Int.toNat_natCast,hx]
 rw [e]
 obtain ⟨k,hk,hkl,eon⟩:= onW_of hv hx
 have hne : idxK (onQ w k) w.pts.length ≠ []:= by
  intro h
  have : q ∈ idxK (onQ w k) w.pts.length:= mem_idx.2 ⟨by omega,by simp [onQ,hx,hk]⟩
  rw [h] at this
  cases this
 obtain ⟨τ,hOn⟩:= C_OnF w hf k hkl hne
 have hlen:= idxK_len (onQ w k) w.pts.length
 have hl3:= hf.l3
 have hO1 : ∀ n ∈ idxK (onQ w k) w.pts.length,AC Tryz.prog f_q50 [avI n,.bp [.rp (topoV w)],.bp [.lit (.int .i64 x.rt),.lit (.int .i64 x.lk),avU x.a]] (.lit (.bool (match w.pts[n]? with | some y => y.rt == x.rt | none => false))):= by
  intro n hn
  have hnl:= (mem_idx.1 hn).1
  have hy : w.pts[n]? = some w.pts[n]:= List.getElem?_eq_getElem hnl
  rw [hy]
  exact C_Others_1 w x n _ hy
 simp only [othersW,eon]
 rw [hk] at hO1
 refine ac_q18 ?_ (Nat.le_add_left 2 _)
 generalize hT : topoV w = T at *
 have hT1 : (7 ≤ T.length) = True:= eq_true (by rw [← hT]; exact Nat.le_of_ble_eq_true rfl)
 have hT2 : T.take 7 = netV w:= by rw [← hT]; rfl
 simp only [go_sem,c_q18,f1,f2,hT1,hT2,netV,avU,decide_false,List.length_map,Int.natCast_nonneg,Int.toNat_natCast,List.getElem?_map,hx,Option.map_some,rowAgg,avPort,hk]
 refine callX_of hOn ?_
 simp only [go_sem]
 generalize idxK (onQ w k) w.pts.length = L at *
 have hLl : L.length ≤ 4294967296:= by omega
 refine splitX_of (VS.adopt (p:= .slot 29) (g:= false) 0 rfl (by simpa using hne) (fun r hr => ?_) (by decide) rfl) ?_
 ·obtain ⟨n,_,rfl⟩:= List.mem_map.1 hr
  rfl
 rintro _ ⟨cap,j,hcap,rfl⟩
 rw [cells_nats]
 rw [List.length_map] at hcap ⊢
 simp only [mkE_strip]
 rw [set_slot,mkE_putc]
 have ht : Tl (List.replicate j .dead):= fun x hx => .inl (List.eq_of_mem_replicate hx)
 generalize List.replicate j AV.dead = tl at ht ⊢
 have hD:= C_DeleteFunc (f:= f_q50) (fst:= []) (caps:= [.bp [.rp T],.bp [.lit (.int .i64 x.rt),.lit (.int .i64 (k : Nat)),avU x.a]]) (asf:= fun n => [avI n,.bp [.rp T],.bp [.lit (.int .i64 x.rt),.lit (.int .i64 (k : Nat)),avU x.a]])
  (p:= fun n => match w.pts[n]? with | some y => y.rt == x.rt | none => false) (cap:= cap) ht L hcap (by omega) (fun C => rfl) (fun C => rfl) (fun C n => rfl) hO1
 have hle : (L.filter fun n => !(match w.pts[n]? with | some y => y.rt == x.rt | none => false)).length ≤ L.length:= List.length_filter_le _ _
 generalize L.filter (fun n => !(match w.pts[n]? with | some y => y.rt == x.rt | none => false)) = M at *
 have hret : ∀ (C : Nat → Option (List AV)) (n : Nat),retM C (n + 1) 0 M.length cap false 1 (some (M.map avI ++ (List.replicate (L.length - M.length) (avI 0) ++ tl))) = some (.sl .none 1 (M.map avI)):= by
  intro C n
  rw [retM_some (l:= M.map avI) 0 M.length cap false 1 _ (show 0 + M.length * 1 ≤ (M.map avI ++ (List.replicate (L.length - M.length) (avI 0) ++ tl)).length ∧ M.length ≤ cap ∧ (false = true ∨ (1 : Nat) = 1) from ⟨by simp,by omega,.inr rfl⟩) ?_,chunk_nats]
  rw [List.drop_zero,Nat.mul_one,List.take_append_of_le_length (by simp),List.take_of_length_le (by simp)]
  refine mapO_id fun x hx => ?_
  obtain ⟨n,_,rfl⟩:= List.mem_map.1 hx
  rfl
 simp only [go_sem]
 refine call0i_of ht rfl hD ?_
 simp only [go_sem,hret]
end Go.Proofs.YtnndbbmidoidpaaGreatDoor.VL
end

section
set_option maxHeartbeats 4000000
namespace Go.Proofs.YtnndbbmidoidpaaGreatDoor.VL
open Go.RowKit Go.Proofs
theorem C_Members (w : NW) (hf : w.Fit) (i : Int) : AC Tryz.prog f_q19 [.rp (topoV w),.lit (.int .i64 i)] (.sl .none 1 ((mbW w i).map avI)):= by
 refine ac_q19 ?_ (Nat.le_add_left 2 _)
 simp only [go_sem,c_q19,topoV,tC,MBv]
 refine callX_of (C_list _ _ i hf.l2 fun j => Nat.le_trans (idxK_len _ _) hf.l7) ?_
 simp only [go_sem,mbW]
end Go.Proofs.YtnndbbmidoidpaaGreatDoor.VL
end

section
set_option maxHeartbeats 4000000
namespace Go.Proofs.YtnndbbmidoidpaaGreatDoor.VL
open Go.RowKit Go.Proofs
def nameN (c : UInt8) (n : Nat) : ByteArray:= ⟨#[c,UInt8.ofNat (48 + n)]⟩
def addrL (l n : Nat) : Nat:= 167772160 + 256 * l + n
def linkL (i : Nat) : NLk:= ⟨nameN 108 i,addrL i 0,24⟩
def rtrL (i : Nat) : NRt:= ⟨nameN 114 i,1⟩
def portL (r l : Nat) : NPt:= ⟨r,l,addrL l (r + 1)⟩
def rowO (t : List Nat) (e : Nat) (l : List AV) : AV:= if l = [] then .sl .nil 0 [] else .sl (.own t) e l
theorem rowO_nil (t : List Nat) (e : Nat) : rowO t e [] = .sl .nil 0 []:= rfl
theorem rowO_cons (t : List Nat) (e : Nat) (x : AV) (l : List AV) : rowO t e (x :: l) = .sl (.own t) e (x :: l):= rfl
def links (k : Nat) : List NLk:= (List.range k).map linkL
def L1 (n root i : Nat) : Env:= mkE [(0,avI n),(1,avI root),(4,.lp 4 0),(5,.lp 5 0),(6,avI i)] [(4,nils),(5,[.sl .nil 0 [],rowO [21] 3 ((links i).map avLink),.sl .nil 0 [],.sl .nil 0 [],.sl .nil 0 [],.sl .nil 0 [],.sl .nil 0 []])]
def rtrs (k : Nat) : List NRt:= (List.range k).map rtrL
def prts (k : Nat) : List NPt:= (List.range k).flatMap fun i => [portL i i,portL i (i + 1)]
def roA (i k : Nat) : NRo:= ⟨i,addrL k 0,24,addrL i i,((i - k : Nat) : Int)⟩
def roB (i k : Nat) : NRo:= ⟨i,addrL k 0,24,addrL (i + 1) (i + 2),((k - i : Nat) : Int)⟩
def rtsK (i k : Nat) : List NRo:= (List.range k).flatMap fun k => (if k < i then [roA i k] else []) ++ (if i + 1 < k then [roB i k] else [])
def rtsI (n i : Nat) : List NRo:= (List.range i).flatMap fun i => rtsK i (n + 1)
def LC (n t : Nat) (rows : List AV) : List (Nat × List AV):= [(4,nils),(5,[rowO [34] 2 ((rtrs n).map avRouter),.sl (.own [21]) 3 ((links (n + 1)).map avLink),rowO [46] 3 ((prts n).map avPort),rowO [t] 5 rows,.sl .nil 0 [],.sl .nil 0 [],.sl .nil 0 []])]
def L4 (n root i k t : Nat) : Env:= mkE [(0,avI n),(1,avI root),(4,.lp 4 0),(5,.lp 5 0),(8,avI i),(9,avI k)] (LC n t ((rtsI n i ++ rtsK i k).map avRoute))
def L2 (n root i : Nat) : Env:= mkE [(0,avI n),(1,avI root),(4,.lp 4 0),(5,.lp 5 0),(7,avI i)] [(4,nils),(5,[rowO [34] 2 ((rtrs i).map avRouter),.sl (.own [21]) 3 ((links (n + 1)).map avLink),rowO [46] 3 ((prts i).map avPort),.sl .nil 0 [],.sl .nil 0 [],.sl .nil 0 [],.sl .nil 0 []])]
theorem resOK_rowO (t : List Nat) (e : Nat) (l : List AV) : resOK (rowO t e l) = true:= by
 unfold rowO
 split <;> rfl
theorem rep_own {F : RE} {τ : List Nat} {e : Nat} {rows : List AV} {v : Value} (h : Rep F (.sl (.own τ) e rows) v) : Rep F (.sl .none e rows) v:= by
 simp only [Rep] at h ⊢
 obtain ⟨A,cap,vs,rfl,h1,h2,h3,h4,h5⟩:= h
 refine ⟨A,cap,vs,rfl,h1,h2,h3,h4,fun hne => ?_⟩
 rcases h5 with ⟨_,h0⟩ | ⟨g,cur,ty,rfl,hat,_⟩
 ·have : rows.length = 0:= by omega
  exact absurd (List.length_eq_zero_iff.1 this) hne
 ·exact ⟨g,0,rfl,hat⟩
theorem wk_own (τ : List Nat) (e : Nat) (rows : List AV) : Wk (.sl (.own τ) e rows) (.sl .none e rows):= fun _ _ h => rep_own h
theorem wk_rowO (τ : List Nat) (e : Nat) (rows : List AV) : Wk (rowO τ e rows) (.sl .none e rows):= by
 unfold rowO
 split
 ·rename_i h
  subst h
  exact wk_nil 0 e
 ·exact wk_own τ e rows
end Go.Proofs.YtnndbbmidoidpaaGreatDoor.VL
end

section
set_option maxHeartbeats 4000000
namespace Go.Proofs.YtnndbbmidoidpaaGreatDoor.VL
open Go.RowKit Go.Proofs
theorem or_tab : ((List.range 32).all fun k => decide (mskN k ||| 2 ^ (31 - k) = mskN (k + 1))) = true:= by decide +kernel
theorem or_row (k : Nat) (h : k < 32) : mskN k ||| 2 ^ (31 - k) = mskN (k + 1):= by
 have:= or_tab
 simp only [List.all_eq_true,List.mem_range,decide_eq_true_eq] at this
 exact this k h
theorem nat_mod32 (y : Nat) (h : y < 4294967296) : (y : Int) % 4294967296 = (y : Int):= by omega
theorem C_rMask (b : Int) : AC Tryz.prog f_q201 [.lit (.int .i64 b)] (avU (mskN (cl32 b))):= by
 refine ac_q201 ?_ (Nat.le_add_left 1 _)
 simp only [go_sem,c_q201]
 refine aw_loop (fun m E => ∃ k : Nat,k + m = 32 ∧ k ≤ cl32 b ∧ E = mkE [(0,.lit (.int .i64 b)),(3,avU (mskN k)),(4,.lit (.int .i64 (k : Nat)))] []) 32 ?_ ?_
 ·exact ⟨0,by omega,by omega,by simp only [go_sem]; rfl⟩
 ·rintro m _ ⟨k,hk,hkb,rfl⟩
  have hc:= cl32_le b
  by_cases h1 : (k : Int) < b
  ·have e1 : ((k : Int) < b) = True:= eq_true h1
   by_cases h2 : k < 32
   ·have e2 : ((k : Int) < 32) = True:= eq_true (by omega)
    have w1 : IntKind.i64.wrap (31 - (k : Int)) = 31 - (k : Int):= by rw [IntKind.wrap_i64]; omega
    have w2 : IntKind.u64.wrap (31 - (k : Int)) = 31 - (k : Int):= by
     have : IntKind.u64.wrap (31 - (k : Int)) = (31 - (k : Int)) % 18446744073709551616:= by simp [IntKind.wrap,IntKind.bits,IntKind.signed]
     rw [this]
     omega
    have b4:= avBin_shl 32 .u32 .u64 1 (31 - (k : Int)) (by omega) (by simp [IntKind.bits]; omega)
    have b5 : IntKind.u32.wrap (1 * 2 ^ (31 - (k : Int)).toNat) = ((2 ^ (31 - k) : Nat) : Int):= by
     have e : (31 - (k : Int)).toNat = 31 - k:= by omega
     have hp2 : 2 ^ (31 - k) ≤ 2 ^ 31:= Nat.pow_le_pow_right (by decide) (by omega)
     have e2 : (1 * 2 ^ (31 - k) : Int) = ((2 ^ (31 - k) : Nat) : Int):= by simp
     rw [e,e2,IntKind.wrap_u32]
     exact nat_mod32 _ (Nat.lt_of_le_of_lt hp2 (by decide))
    have b6 : bits .or .u32 (mskN k : Nat) ((2 ^ (31 - k) : Nat) : Int) = ((mskN (k + 1) : Nat) : Int):= by
     have hp2 : 2 ^ (31 - k) ≤ 2 ^ 31:= Nat.pow_le_pow_right (by decide) (by omega)
     rw [u32_or_nat _ _ (mskN_lt _) (Nat.lt_of_le_of_lt hp2 (by decide)),or_row k h2]
    have w3:= wrap_succ k (by omega)
    simp only [go_sem,avU,e1,e2,decide_true,w1,w2,b4,b5,b6,w3]
    refine ⟨m - 1,by omega,k + 1,by omega,?_,rfl⟩
    unfold cl32
    split <;> (try split) <;> omega
   ·have e2 : ((k : Int) < 32) = False:= eq_false (by omega)
    have e3 : k = cl32 b:= by omega
    simp only [go_sem,avU,e1,e2,decide_true,decide_false]
    rw [e3]
  ·have e1 : ((k : Int) < b) = False:= eq_false h1
   have e3 : k = cl32 b:= by
    by_cases p1 : b < 0
    ·have e : cl32 b = 0:= if_pos p1
     omega
    ·by_cases p2 : 32 < b
     ·have e : cl32 b = 32:= by unfold cl32; rw [if_neg p1,if_pos p2]
      omega
     ·have e : cl32 b = b.toNat:= by unfold cl32; rw [if_neg p1,if_neg p2]
      omega
   simp only [go_sem,avU,e1,decide_false]
   rw [e3]
theorem C_rValid (a : Nat) (b : Int) (ha : a < 4294967296) : AC Tryz.prog f_q166 [avPfx a b] (.lit (.bool (validN a b))):= by
 refine ac_q166 ?_ (Nat.le_add_left 1 19)
 by_cases h0 : 0 ≤ b
 ·by_cases h1 : b ≤ 32
  ·have e0 : decide (0 ≤ b) = true:= by simpa using h0
   have e1 : decide (b ≤ 32) = true:= by simpa using h1
   simp only [go_sem,c_q166,avPfx,avU,e0,e1]
   refine callX_of (C_rMask b) ?_
   simp only [go_sem,c_q166,avU,e0,e1,u32_nmsk a _ ha]
   rw [cl32_eq b h0 h1,nat_beq0]
   simp [validN,e0,e1]
  ·have e0 : decide (0 ≤ b) = true:= by simpa using h0
   have e1 : decide (b ≤ 32) = false:= by simpa using h1
   simp only [go_sem,c_q166,avPfx,avU,e0,e1]
   simp [validN,e0,e1]
 ·have e0 : decide (0 ≤ b) = false:= by simpa using h0
  simp only [go_sem,c_q166,avPfx,avU,e0]
  simp [validN,e0]
theorem C_rIn (p : Nat) (b : Int) (x : Nat) (hp : p < 4294967296) (hx : x < 4294967296) : AC Tryz.prog f_q169 [avPfx p b,avU x] (.lit (.bool (inN p b x))):= by
 refine ac_q169 ?_ (Nat.le_add_left 2 15)
 cases hv : validN p b with
 | false =>
  simp only [go_sem,c_q169,avPfx,avU]
  refine callX_of (C_rValid p b hp) ?_
  simp only [go_sem,hv]
  simp [inN,hv]
 | true =>
  obtain ⟨h0,h1⟩:= validN_bounds hv
  simp only [go_sem,c_q169,avPfx,avU]
  refine callX_of (C_rValid p b hp) ?_
  simp only [go_sem,hv]
  refine callX_of (C_rMask b) ?_
  simp only [go_sem,avU,u32_msk x _ hx]
  rw [cl32_eq b h0 h1,nat_beq]
  simp [inN,hv]
theorem C_rWithin (p : Nat) (b : Int) (q : Nat) (c : Int) (hp : p < 4294967296) (hq : q < 4294967296) : AC Tryz.prog f_q167 [avPfx p b,avPfx q c] (.lit (.bool (withinN p b q c))):= by
 refine ac_q167 ?_ (Nat.le_add_left 2 18)
 cases hv : validN p b with
 | false =>
  simp only [go_sem,c_q167,avPfx,avU]
  refine callX_of (C_rValid p b hp) ?_
  simp only [go_sem,hv]
  simp [withinN,hv]
 | true =>
  cases hc : decide (c ≤ b) with
  | false =>
   simp only [go_sem,c_q167,avPfx,avU]
   refine callX_of (C_rValid p b hp) ?_
   simp only [go_sem,hv,hc]
   simp [withinN,hv,hc]
  | true =>
   simp only [go_sem,c_q167,avPfx,avU]
   refine callX_of (C_rValid p b hp) ?_
   simp only [go_sem,hv,hc]
   refine callX_of (C_rIn q c p hq hp) ?_
   simp only [go_sem,hv,hc]
   simp [withinN,hv,hc]
theorem C_rGroup (a : Nat) (ha : a < 4294967296) : AC Tryz.prog f_q170 [avU a] (.lit (.bool (groupN a))):= by
 refine ac_q170 ?_ (Nat.le_add_left 1 _)
 have e:= avBin_shr 32 .u32 .u64 (a : Int) 28 (by decide) (by decide)
 have e2 : (((a : Int) / 2 ^ 28) == 14) = groupN a:= by
  rw [show (2 : Int) ^ 28 = 268435456 from rfl,Bool.eq_iff_iff]
  simp only [beq_iff_eq,groupN,Bool.and_eq_true,decide_eq_true_eq]
  omega
 simp only [go_sem,c_q170,avU,e]
 rw [← e2]
end Go.Proofs.YtnndbbmidoidpaaGreatDoor.VL
end

section
set_option maxHeartbeats 4000000
namespace Go.Proofs.YtnndbbmidoidpaaGreatDoor.VL
open Go.RowKit Go.Proofs
def onZ (w : NW) (i : Int) (j : Nat) : Bool:= match w.pts[j]? with | some p => p.lk == i | none => false
theorem onZ_eq {w : NW} (hv : vNet w = none) (i : Int) : idxK (onZ w i) w.pts.length = onW w i:= by
 simp only [onW,atF]
 by_cases h : 0 ≤ i ∧ i < (w.lks.length : Int)
 ·rw [if_pos h]
  have e : onZ w i = onQ w i.toNat:= by
   funext j
   simp only [onZ,onQ]
   cases w.pts[j]? with
   | none => rfl
   | some p => simp only; rw [show ((i.toNat : Nat) : Int) = i by omega]
  rw [e]
 ·rw [if_neg h]
  refine List.eq_nil_iff_forall_not_mem.2 fun j hj => ?_
  rw [mem_idx] at hj
  obtain ⟨hj,hq⟩:= hj
  have hx : w.pts[j]? = some w.pts[j]:= List.getElem?_eq_getElem hj
  obtain ⟨k,hk,hkl⟩:= (portOK hv hx).lk
  simp only [onZ,hx,beq_iff_eq] at hq
  omega
def RO (w : NW) (k : Int) (i : Nat) : Env:= mkE [(1,.lit (.int .i64 k)),(2,.lp 2 0),(5,rowO [25] 1 ((idxK (onZ w k) i).map avI)),(6,.lit (.int .i64 (i : Nat)))] [(2,netV w)]
theorem C_rOn (w : NW) (hf : w.Fit) (k : Int) : AC Tryz.prog f_q13 [.agg (netV w),.lit (.int .i64 k)] (.sl .none 1 ((idxK (onZ w k) w.pts.length).map avI)):= by
 have h3:= hf.l3
 refine AC_weak (ac_q13 (r:= rowO [25] 1 ((idxK (onZ w k) w.pts.length).map avI)) ?_ (Nat.le_add_left 2 _) (resOK_rowO _ _ _)) (wk_rowO _ _ _)
 simp only [go_sem,c_q13,one_net,len_net,take_net,Nat.le_refl]
 refine aw_loop (fun m E => ∃ i : Nat,i + m = w.pts.length ∧ E = RO w k i) w.pts.length ?_ ?_
 ·exact ⟨0,by omega,rfl⟩
 ·rintro m _ ⟨i,him,rfl⟩
  by_cases hil : i < w.pts.length
  ·have f1 : ((i : Int) < (w.pts.length : Int)) = True:= eq_true (by omega)
   have hw:= wrap_succ i (by omega)
   obtain ⟨x,hx⟩ : ∃ x,w.pts[i]? = some x:= ⟨w.pts[i],List.getElem?_eq_getElem hil⟩
   have e1 : idxK (onZ w k) (i + 1) = if (x.lk == k) = true then idxK (onZ w k) i ++ [i] else idxK (onZ w k) i:= by
    rw [idxK_succ]
    simp only [onZ,hx]
   have hR : ((idxK (onZ w k) i).map avI).length ≤ 4294967295:= by
    have:= idxK_len (onZ w k) i
    rw [List.length_map]
    omega
   cases hp : x.lk == k
   ·rw [hp] at e1
    simp only [Bool.false_eq_true,if_false] at e1
    simp only [RO]
    simp only [go_sem,netV,List.length_map,f1,decide_true,Int.natCast_nonneg,Int.toNat_natCast,List.getElem?_map,hx,Option.map_some,rowAgg,avPort,avU,hp,hw]
    exact ⟨m - 1,by omega,i + 1,by omega,by simp only [RO,e1,netV]⟩
   ·rw [hp] at e1
    simp only [if_true] at e1
    have e2 : (idxK (onZ w k) (i + 1)).map avI = (idxK (onZ w k) i).map avI ++ [.lit (.int .i64 (i : Nat))]:= by rw [e1,List.map_append]; rfl
    simp only [RO]
    generalize (idxK (onZ w k) i).map avI = R at *
    cases R with
    | nil =>
     have ea : ∀ s c,avApp 1 8 [] 25 s c (.sl .nil 0 []) (.sl (.own [24]) 1 [.lit (.int .i64 (i : Nat))]) = _:= fun s c => avApp_nil (d:= 25) (s:= s) (c:= c) 1 8 0 [] [] [.lit (.int .i64 (i : Nat))] (.own [24]) (by simp) (by decide)
     simp only [go_sem,rowO_nil,netV,List.length_map,f1,decide_true,Int.natCast_nonneg,Int.toNat_natCast,List.getElem?_map,hx,Option.map_some,rowAgg,avPort,avU,hp,hw,ea]
     exact ⟨m - 1,by omega,i + 1,by omega,by simp only [RO,e2,netV]; rfl⟩
    | cons z zs =>
     have ea : ∀ s c,avApp 1 8 [] 25 s c (.sl (.own [25]) 1 (z :: zs)) (.sl (.own [24]) 1 [.lit (.int .i64 (i : Nat))]) = _:= fun s c => avApp_own (d:= 25) (s:= s) (c:= c) 1 8 [] [25] (z :: zs) [.lit (.int .i64 (i : Nat))] (.own [24]) (by simp at hR ⊢; omega) (by decide) rfl
     simp only [go_sem,rowO_cons,netV,List.length_map,f1,decide_true,Int.natCast_nonneg,Int.toNat_natCast,List.getElem?_map,hx,Option.map_some,rowAgg,avPort,avU,hp,hw,ea]
     exact ⟨m - 1,by omega,i + 1,by omega,by simp only [RO,e2,netV]; rfl⟩
  ·have f1 : ((i : Int) < (w.pts.length : Int)) = False:= eq_false (by omega)
   have e : i = w.pts.length:= by omega
   subst e
   simp only [RO]
   generalize (idxK (onZ w k) w.pts.length).map avI = R
   cases R with
   | nil => simp only [go_sem,rowO_nil,netV,List.length_map,f1,decide_false]
   | cons z zs => simp only [go_sem,rowO_cons,netV,List.length_map,f1,decide_false]
def ofZ (w : NW) (i : Int) (j : Nat) : Bool:= match w.pts[j]? with | some p => p.rt == i | none => false
theorem ofZ_eq {w : NW} (hv : vNet w = none) (i : Int) : idxK (ofZ w i) w.pts.length = ofW w i:= by
 simp only [ofW,atF]
 by_cases h : 0 ≤ i ∧ i < (w.rts.length : Int)
 ·rw [if_pos h]
  have e : ofZ w i = ofQ w i.toNat:= by
   funext j
   simp only [ofZ,ofQ]
   cases w.pts[j]? with
   | none => rfl
   | some p => simp only; rw [show ((i.toNat : Nat) : Int) = i by omega]
  rw [e]
 ·rw [if_neg h]
  refine List.eq_nil_iff_forall_not_mem.2 fun j hj => ?_
  rw [mem_idx] at hj
  obtain ⟨hj,hq⟩:= hj
  have hx : w.pts[j]? = some w.pts[j]:= List.getElem?_eq_getElem hj
  obtain ⟨k,hk,hkl⟩:= (portOK hv hx).rt
  simp only [ofZ,hx,beq_iff_eq] at hq
  omega
def RF (w : NW) (k : Int) (i : Nat) : Env:= mkE [(1,.lit (.int .i64 k)),(2,.lp 2 0),(5,rowO [25] 1 ((idxK (ofZ w k) i).map avI)),(6,.lit (.int .i64 (i : Nat)))] [(2,netV w)]
theorem C_rOf (w : NW) (hf : w.Fit) (k : Int) : AC Tryz.prog f_q17 [.agg (netV w),.lit (.int .i64 k)] (.sl .none 1 ((idxK (ofZ w k) w.pts.length).map avI)):= by
 have h3:= hf.l3
 refine AC_weak (ac_q17 (r:= rowO [25] 1 ((idxK (ofZ w k) w.pts.length).map avI)) ?_ (Nat.le_add_left 2 _) (resOK_rowO _ _ _)) (wk_rowO _ _ _)
 simp only [go_sem,c_q17,one_net,len_net,take_net,Nat.le_refl]
 refine aw_loop (fun m E => ∃ i : Nat,i + m = w.pts.length ∧ E = RF w k i) w.pts.length ?_ ?_
 ·exact ⟨0,by omega,rfl⟩
 ·rintro m _ ⟨i,him,rfl⟩
  by_cases hil : i < w.pts.length
  ·have f1 : ((i : Int) < (w.pts.length : Int)) = True:= eq_true (by omega)
   have hw:= wrap_succ i (by omega)
   obtain ⟨x,hx⟩ : ∃ x,w.pts[i]? = some x:= ⟨w.pts[i],List.getElem?_eq_getElem hil⟩
   have e1 : idxK (ofZ w k) (i + 1) = if (x.rt == k) = true then idxK (ofZ w k) i ++ [i] else idxK (ofZ w k) i:= by
    rw [idxK_succ]
    simp only [ofZ,hx]
   have hR : ((idxK (ofZ w k) i).map avI).length ≤ 4294967295:= by
    have:= idxK_len (ofZ w k) i
    rw [List.length_map]
    omega
   cases hp : x.rt == k
   ·rw [hp] at e1
    simp only [Bool.false_eq_true,if_false] at e1
    simp only [RF]
    simp only [go_sem,netV,List.length_map,f1,decide_true,Int.natCast_nonneg,Int.toNat_natCast,List.getElem?_map,hx,Option.map_some,rowAgg,avPort,avU,hp,hw]
    exact ⟨m - 1,by omega,i + 1,by omega,by simp only [RF,e1,netV]⟩
   ·rw [hp] at e1
    simp only [if_true] at e1
    have e2 : (idxK (ofZ w k) (i + 1)).map avI = (idxK (ofZ w k) i).map avI ++ [.lit (.int .i64 (i : Nat))]:= by rw [e1,List.map_append]; rfl
    simp only [RF]
    generalize (idxK (ofZ w k) i).map avI = R at *
    cases R with
    | nil =>
     have ea : ∀ s c,avApp 1 8 [] 25 s c (.sl .nil 0 []) (.sl (.own [24]) 1 [.lit (.int .i64 (i : Nat))]) = _:= fun s c => avApp_nil (d:= 25) (s:= s) (c:= c) 1 8 0 [] [] [.lit (.int .i64 (i : Nat))] (.own [24]) (by simp) (by decide)
     simp only [go_sem,rowO_nil,netV,List.length_map,f1,decide_true,Int.natCast_nonneg,Int.toNat_natCast,List.getElem?_map,hx,Option.map_some,rowAgg,avPort,avU,hp,hw,ea]
     exact ⟨m - 1,by omega,i + 1,by omega,by simp only [RF,e2,netV]; rfl⟩
    | cons z zs =>
     have ea : ∀ s c,avApp 1 8 [] 25 s c (.sl (.own [25]) 1 (z :: zs)) (.sl (.own [24]) 1 [.lit (.int .i64 (i : Nat))]) = _:= fun s c => avApp_own (d:= 25) (s:= s) (c:= c) 1 8 [] [25] (z :: zs) [.lit (.int .i64 (i : Nat))] (.own [24]) (by simp at hR ⊢; omega) (by decide) rfl
     simp only [go_sem,rowO_cons,netV,List.length_map,f1,decide_true,Int.natCast_nonneg,Int.toNat_natCast,List.getElem?_map,hx,Option.map_some,rowAgg,avPort,avU,hp,hw,ea]
     exact ⟨m - 1,by omega,i + 1,by omega,by simp only [RF,e2,netV]; rfl⟩
  ·have f1 : ((i : Int) < (w.pts.length : Int)) = False:= eq_false (by omega)
   have e : i = w.pts.length:= by omega
   subst e
   simp only [RF]
   generalize (idxK (ofZ w k) w.pts.length).map avI = R
   cases R with
   | nil => simp only [go_sem,rowO_nil,netV,List.length_map,f1,decide_false]
   | cons z zs => simp only [go_sem,rowO_cons,netV,List.length_map,f1,decide_false]
def mbZ (w : NW) (i : Int) (j : Nat) : Bool:= match w.mbs[j]? with | some p => p.lk == i | none => false
theorem mbZ_eq {w : NW} (hv : vNet w = none) (i : Int) : idxK (mbZ w i) w.mbs.length = mbW w i:= by
 simp only [mbW,atF]
 by_cases h : 0 ≤ i ∧ i < (w.lks.length : Int)
 ·rw [if_pos h]
  have e : mbZ w i = mbQ w i.toNat:= by
   funext j
   simp only [mbZ,mbQ]
   cases w.mbs[j]? with
   | none => rfl
   | some p => simp only; rw [show ((i.toNat : Nat) : Int) = i by omega]
  rw [e]
 ·rw [if_neg h]
  refine List.eq_nil_iff_forall_not_mem.2 fun j hj => ?_
  rw [mem_idx] at hj
  obtain ⟨hj,hq⟩:= hj
  have hx : w.mbs[j]? = some w.mbs[j]:= List.getElem?_eq_getElem hj
  obtain ⟨k,hk,hkl⟩:= (memOK hv hx).lk
  simp only [mbZ,hx,beq_iff_eq] at hq
  omega
def RMb (w : NW) (k : Int) (i : Nat) : Env:= mkE [(1,.lit (.int .i64 k)),(2,.lp 2 0),(5,rowO [25] 1 ((idxK (mbZ w k) i).map avI)),(6,.lit (.int .i64 (i : Nat)))] [(2,netV w)]
theorem C_rMembers (w : NW) (hf : w.Fit) (k : Int) : AC Tryz.prog f_q20 [.agg (netV w),.lit (.int .i64 k)] (.sl .none 1 ((idxK (mbZ w k) w.mbs.length).map avI)):= by
 have h7:= hf.l7
 refine AC_weak (ac_q20 (r:= rowO [25] 1 ((idxK (mbZ w k) w.mbs.length).map avI)) ?_ (Nat.le_add_left 2 _) (resOK_rowO _ _ _)) (wk_rowO _ _ _)
 simp only [go_sem,c_q20,one_net,len_net,take_net,Nat.le_refl]
 refine aw_loop (fun m E => ∃ i : Nat,i + m = w.mbs.length ∧ E = RMb w k i) w.mbs.length ?_ ?_
 ·exact ⟨0,by omega,rfl⟩
 ·rintro m _ ⟨i,him,rfl⟩
  by_cases hil : i < w.mbs.length
  ·have f1 : ((i : Int) < (w.mbs.length : Int)) = True:= eq_true (by omega)
   have hw:= wrap_succ i (by omega)
   obtain ⟨x,hx⟩ : ∃ x,w.mbs[i]? = some x:= ⟨w.mbs[i],List.getElem?_eq_getElem hil⟩
   have e1 : idxK (mbZ w k) (i + 1) = if (x.lk == k) = true then idxK (mbZ w k) i ++ [i] else idxK (mbZ w k) i:= by
    rw [idxK_succ]
    simp only [mbZ,hx]
   have hR : ((idxK (mbZ w k) i).map avI).length ≤ 4294967295:= by
    have:= idxK_len (mbZ w k) i
    rw [List.length_map]
    omega
   cases hp : x.lk == k
   ·rw [hp] at e1
    simp only [Bool.false_eq_true,if_false] at e1
    simp only [RMb]
    simp only [go_sem,netV,List.length_map,f1,decide_true,Int.natCast_nonneg,Int.toNat_natCast,List.getElem?_map,hx,Option.map_some,rowAgg,avMb,avU,hp,hw]
    exact ⟨m - 1,by omega,i + 1,by omega,by simp only [RMb,e1,netV]⟩
   ·rw [hp] at e1
    simp only [if_true] at e1
    have e2 : (idxK (mbZ w k) (i + 1)).map avI = (idxK (mbZ w k) i).map avI ++ [.lit (.int .i64 (i : Nat))]:= by rw [e1,List.map_append]; rfl
    simp only [RMb]
    generalize (idxK (mbZ w k) i).map avI = R at *
    cases R with
    | nil =>
     have ea : ∀ s c,avApp 1 8 [] 25 s c (.sl .nil 0 []) (.sl (.own [24]) 1 [.lit (.int .i64 (i : Nat))]) = _:= fun s c => avApp_nil (d:= 25) (s:= s) (c:= c) 1 8 0 [] [] [.lit (.int .i64 (i : Nat))] (.own [24]) (by simp) (by decide)
     simp only [go_sem,rowO_nil,netV,List.length_map,f1,decide_true,Int.natCast_nonneg,Int.toNat_natCast,List.getElem?_map,hx,Option.map_some,rowAgg,avMb,avU,hp,hw,ea]
     exact ⟨m - 1,by omega,i + 1,by omega,by simp only [RMb,e2,netV]; rfl⟩
    | cons z zs =>
     have ea : ∀ s c,avApp 1 8 [] 25 s c (.sl (.own [25]) 1 (z :: zs)) (.sl (.own [24]) 1 [.lit (.int .i64 (i : Nat))]) = _:= fun s c => avApp_own (d:= 25) (s:= s) (c:= c) 1 8 [] [25] (z :: zs) [.lit (.int .i64 (i : Nat))] (.own [24]) (by simp at hR ⊢; omega) (by decide) rfl
     simp only [go_sem,rowO_cons,netV,List.length_map,f1,decide_true,Int.natCast_nonneg,Int.toNat_natCast,List.getElem?_map,hx,Option.map_some,rowAgg,avMb,avU,hp,hw,ea]
     exact ⟨m - 1,by omega,i + 1,by omega,by simp only [RMb,e2,netV]; rfl⟩
  ·have f1 : ((i : Int) < (w.mbs.length : Int)) = False:= eq_false (by omega)
   have e : i = w.mbs.length:= by omega
   subst e
   simp only [RMb]
   generalize (idxK (mbZ w k) w.mbs.length).map avI = R
   cases R with
   | nil => simp only [go_sem,rowO_nil,netV,List.length_map,f1,decide_false]
   | cons z zs => simp only [go_sem,rowO_cons,netV,List.length_map,f1,decide_false]
theorem find_none_take {α : Type} (p : α → Bool) (l : List α) (i : Nat) (h : ∀ (j : Nat) (y : α),j < i → l[j]? = some y → p y = false) (x : α) (hx : l[i]? = some x) (hp : p x = true) : l.findIdx? p = some i:= by
 rw [List.findIdx?_eq_some_iff_getElem]
 obtain ⟨hi,e⟩:= List.getElem?_eq_some_iff.1 hx
 refine ⟨hi,by rw [e]; exact hp,fun j hj => ?_⟩
 have:= h j l[j] hj (List.getElem?_eq_getElem (by omega))
 simp [this]
theorem C_rAt (w : NW) (a : Nat) (hl : w.pts.length < 9223372036854775808) : AC Tryz.prog f_q12 [.agg (netV w),avU a] (.lit (.int .i64 (match atP w a with | some i => (i : Int) | none => -1))):= by
 refine ac_q12 ?_ (Nat.le_add_left 2 _)
 simp only [go_sem,c_q12,one_net,len_net,take_net,Nat.le_refl,avU]
 refine aw_loop (fun m E => ∃ i : Nat,i + m = w.pts.length ∧ (∀ (j : Nat) (y : NPt),j < i → w.pts[j]? = some y → (y.a == a) = false) ∧ E = mkE [(1,avU a),(2,.lp 2 0),(5,.lit (.int .i64 (i : Nat)))] [(2,netV w)]) w.pts.length ?_ ?_
 ·exact ⟨0,by omega,fun j y hj => absurd hj (Nat.not_lt_zero j),by simp only [go_sem,Int.natCast_zero,avU]⟩
 ·rintro m _ ⟨i,him,hall,rfl⟩
  by_cases hil : i < w.pts.length
  ·have f1 : ((i : Int) < (w.pts.length : Int)) = True:= eq_true (by omega)
   obtain ⟨x,hx⟩ : ∃ x,w.pts[i]? = some x:= ⟨w.pts[i],List.getElem?_eq_getElem hil⟩
   have hw:= wrap_succ i (by omega)
   cases hp : x.a == a
   ·simp only [go_sem,netV,List.length_map,f1,decide_true,Int.natCast_nonneg,Int.toNat_natCast,List.getElem?_map,hx,Option.map_some,rowAgg,avPort,avU,nat_beqb,hp,hw]
    refine ⟨m - 1,by omega,i + 1,by omega,fun j y hj hy => ?_,rfl⟩
    by_cases hji : j = i
    ·subst hji; rw [hx] at hy; injection hy with hy; rw [← hy]; exact hp
    ·exact hall j y (by omega) hy
   ·have e : atP w a = some i:= find_none_take _ _ _ hall x hx hp
    simp only [go_sem,netV,List.length_map,f1,decide_true,Int.natCast_nonneg,Int.toNat_natCast,List.getElem?_map,hx,Option.map_some,rowAgg,avPort,avU,nat_beqb,hp,e]
  ·have f1 : ((i : Int) < (w.pts.length : Int)) = False:= eq_false (by omega)
   have e : atP w a = none:= by
    unfold atP
    rw [List.findIdx?_eq_none_iff]
    intro x hx
    obtain ⟨j,hj⟩:= List.getElem?_of_mem hx
    have hjl:= (List.getElem?_eq_some_iff.1 hj).1
    exact hall j x (by omega) hj
   simp only [go_sem,netV,List.length_map,f1,decide_false,e]
end Go.Proofs.YtnndbbmidoidpaaGreatDoor.VL
end

section
set_option maxHeartbeats 4000000
namespace Go.Proofs.YtnndbbmidoidpaaGreatDoor.VL
open Go.RowKit Go.Proofs
def avF (code : Int) (pl : Bool) (pos : Int) : AV:= .agg [.lit (.int .i64 code),.lit (.bool pl),.lit (.int .i64 pos)]
theorem C_Bare (c : Int) : AC Tryz.prog f_q47 [.lit (.int .i64 c)] (avF c false 0):= by
 refine ac_q47 ?_ (Nat.le_add_left 1 _)
 simp only [go_sem,c_q47,avF]
theorem C_None : AC Tryz.prog f_q61 [] (avF 0 false 0):= by
 refine ac_q61 ?_ (Nat.zero_le _)
 simp only [go_sem,c_q61,avF]
theorem C_SameFault (c d : Int) : AC Tryz.prog f_q60 [avF c false 0,avF d false 0] (.lit (.bool (c == d))):= by
 refine ac_q60 ?_ (Nat.le_add_left 2 _)
 simp only [go_sem,c_q60,avF]
 cases c == d
 ·simp only [go_sem]
 ·simp only [go_sem]
def sentL : List Nat:= [8,9,3,0,10,1,11,12,7,2,5,6,4,13]
theorem C_sentinels : ∃ d,AC Tryz.prog f_q152 [] (.sl (.own [d]) 1 (sentL.map AV.gl)):= by
 refine ⟨15,ac_q152 ?_ (Nat.zero_le _)⟩
 simp only [go_sem,c_q152,GS,List.mem_cons,List.mem_nil_iff,or_true,true_or,or_false,false_or,sentL,List.map_cons,List.map_nil]
theorem C_Alike (i j : Nat) : AC Tryz.prog f_q153 [.gl i,.gl j] (.lit (.bool (i == j))):= by
 refine ac_q153 ?_ (Nat.le_add_left 2 _)
 simp only [go_sem,c_q153]
def codeI (i : Nat) : Int:= 101 + (sentL.idxOf i : Nat)
theorem C_sentinel (i : Nat) (hi : i ∈ sentL) : AC Tryz.prog f_q99 [.gl i] (.lit (.int .i64 (codeI i))):= by
 refine ac_q99 ?_ (Nat.le_add_left 1 _)
 obtain ⟨d,hs⟩:= C_sentinels
 simp only [go_sem,c_q99]
 refine callX_of hs ?_
 simp only [go_sem]
 have hlen : sentL.length = 14:= rfl
 have hidx : sentL.idxOf i < 14:= hlen ▸ List.idxOf_lt_length_of_mem hi
 refine aw_loop (fun m E => ∃ k : Nat,k + m = 14 ∧ k ≤ sentL.idxOf i ∧ E = mkE [(0,.gl i),(3,.sl (.own [5,d]) 1 (sentL.map AV.gl)),(4,.lit (.int .i64 (k : Nat)))] []) 14 ?_ ?_
 ·exact ⟨0,by omega,by omega,by simp only [go_sem]; rfl⟩
 ·rintro m _ ⟨k,hk,hki,rfl⟩
  have hk14 : k < 14:= by omega
  have e1 : ((k : Int) < (sentL.length : Int)) = True:= eq_true (by rw [hlen]; omega)
  have e2 : (0 ≤ (k : Int)) = True:= eq_true (by omega)
  have hg : (sentL.map AV.gl)[k]? = some (.gl sentL[k]):= by rw [List.getElem?_map,List.getElem?_eq_getElem (by omega)]; rfl
  have w1:= wrap_succ k (by omega)
  have w2 : IntKind.i64.wrap (101 + (k : Int)) = 101 + (k : Int):= by rw [IntKind.wrap_i64]; omega
  have hrg:= avRow_some 1 (.own [5,d]) (AV.gl sentL[k]) rfl
  simp only [go_sem,e1,e2,hg,hrg,Int.toNat_natCast,decide_true]
  refine callX_of (C_Alike i sentL[k]) ?_
  by_cases h : i = sentL[k]
  ·have e3 : (i == sentL[k]) = true:= by simpa using h
   have e4 : sentL.idxOf i = k:= by
    rw [h]
    exact List.Nodup.idxOf_getElem (by decide) k (by omega)
   simp only [go_sem,e3,w2,codeI,e4]
  ·have e3 : (i == sentL[k]) = false:= by simpa using h
   simp only [go_sem,e3,w1]
   refine ⟨m - 1,by omega,k + 1,by omega,?_,rfl⟩
   have hne : sentL.idxOf i ≠ k:= fun e => h (by
    have:= List.getElem_idxOf (by rw [hlen]; exact hidx : sentL.idxOf i < sentL.length)
    simp only [e] at this
    exact this.symm)
   omega
def errO : Option Nat → AV
 | none => .lit .nilIface
 | some i => .gl i
def codeO : Option Nat → Int
 | none => 0
 | some i => codeI i
theorem C_Fault (e : Option Nat) (he : ∀ i,e = some i → i ∈ sentL) : AC Tryz.prog f_q42 [errO e] (avF (codeO e) false 0):= by
 refine ac_q42 ?_ (Nat.le_add_left 1 _)
 cases e with
 | none =>
  simp only [go_sem,c_q42,errO,codeO]
  refine callX_of C_None ?_
  simp only [go_sem,avF]
 | some i =>
  simp only [go_sem,c_q42,errO,codeO]
  refine callX_of (C_sentinel i (he i rfl)) ?_
  simp only [go_sem]
  refine callX_of (C_Bare _) ?_
  simp only [go_sem,avF]
theorem C_Same (e : Option Nat) (he : ∀ i,e = some i → i ∈ sentL) (c : Int) : AC Tryz.prog f_q29 [errO e,avF c false 0] (.lit (.bool (codeO e == c))):= by
 refine ac_q29 ?_ (Nat.le_add_left 2 _)
 have hF:= C_Fault e he
 generalize codeO e = k at hF ⊢
 cases e <;> simp only [errO] at hF ⊢ <;> simp only [go_sem,c_q29,avF] <;> (
 refine callX_of hF ?_
 simp only [go_sem,avF]
 refine callX_of (C_SameFault _ _) ?_
 simp only [go_sem])
theorem C_Is (e : Option Nat) (he : ∀ i,e = some i → i ∈ sentL) (c : Int) : AC Tryz.prog f_q10 [errO e,.lit (.int .i64 c)] (.lit (.bool (codeO e == c))):= by
 refine ac_q10 ?_ (Nat.le_add_left 2 _)
 have hS:= C_Same e he c
 generalize codeO e = k at hS ⊢
 cases e <;> simp only [errO] at hS ⊢ <;> simp only [go_sem,c_q10] <;> (
 refine callX_of (C_Bare c) ?_
 simp only [go_sem,avF]
 refine callX_of hS ?_
 simp only [go_sem])
end Go.Proofs.YtnndbbmidoidpaaGreatDoor.VL
end

