import Derived.Test.YtjceingdmfogeaaGreatDoorGa11
set_option linter.unusedVariables false
set_option linter.unusedSimpArgs false
section
set_option maxHeartbeats 4000000
namespace Go.Proofs.YtjceingdmfogeaaGreatDoor.VL
open Go.RowKit Go.Proofs
def fnN : Nat → FuncId
 | 0 => f_q35
 | 1 => f_q36
 | 2 => f_q37
 | 3 => f_q38
 | 4 => f_q39
 | 5 => f_q40
 | _ => f_q41
theorem W_at (w : NW) (h : w.OK) (k i : Nat) (hi : i < lenN w k) (hv : 6 ≤ k → vAt w k i ≠ some 1) : AC Tryz.prog (fnN k) [.agg (netV w),.lit (.int .i64 (i : Nat))] (amiss (vAt w k i)):= by
 match k,hi,hv with
 | 0,hi,_ =>
  have e:= List.getElem?_eq_getElem (show i < w.rts.length from hi)
  have:= W_router w h i _ e
  simpa only [vAt,fnN,e,Option.bind_some] using this
 | 1,hi,_ =>
  have e:= List.getElem?_eq_getElem (show i < w.lks.length from hi)
  have:= W_link w h i _ e
  simpa only [vAt,fnN,e,Option.bind_some] using this
 | 2,hi,_ =>
  have e:= List.getElem?_eq_getElem (show i < w.pts.length from hi)
  have:= W_port w h i _ e
  simpa only [vAt,fnN,e,Option.bind_some] using this
 | 3,hi,_ =>
  have e:= List.getElem?_eq_getElem (show i < w.ros.length from hi)
  have:= W_route w h i _ e
  simpa only [vAt,fnN,e,Option.bind_some] using this
 | 4,hi,_ =>
  have e:= List.getElem?_eq_getElem (show i < w.rgs.length from hi)
  have:= W_ranges w h i _ e
  simpa only [vAt,fnN,e,Option.bind_some] using this
 | 5,hi,_ =>
  have e:= List.getElem?_eq_getElem (show i < w.scs.length from hi)
  have:= W_source w h i _ e
  simpa only [vAt,fnN,e,Option.bind_some] using this
 | k + 6,hi,hv =>
  have e:= List.getElem?_eq_getElem (show i < w.mbs.length from hi)
  have hv2:= hv (by omega)
  simp only [vAt,e,Option.bind_some] at hv2
  have:= C_member w h i _ e hv2
  simpa only [vAt,fnN,e,Option.bind_some] using this
def rowK (w : NW) (k : Nat) : AV:= .agg [.lit (.int .i64 (lenN w k : Nat)),.lit (.int .i64 (mostN k : Nat)),.clo (.func (fnN k)) [.agg (netV w)] []]
def rowsV (w : NW) : List AV:= [rowK w 0,rowK w 1,rowK w 2,rowK w 3,rowK w 4,rowK w 5,rowK w 6]
theorem rowsV_get (w : NW) (k : Nat) (h : k < 7) : (rowsV w)[k]? = some (.agg [.lit (.int .i64 (lenN w k : Nat)),.lit (.int .i64 (mostN k : Nat)),.clo (.func (fnN k)) [.agg (netV w)] []]):= by
 match k,h with
 | 0,_ => rfl
 | 1,_ => rfl
 | 2,_ => rfl
 | 3,_ => rfl
 | 4,_ => rfl
 | 5,_ => rfl
 | 6,_ => rfl
 | k + 7,h => omega
theorem low_net (C : Nat → Option (List AV)) (n : Nat) (w : NW) : mapO (lower C (n + 1)) (netV w) = some (netV w):= by
 simp only [netV,mapO_cons,mapO_nil,lower_sl,lowTok_none,catO_some]
theorem lenN_lt (w : NW) (h : w.OK) (k : Nat) : lenN w k < 9223372036854775808:= by
 unfold lenN
 split
 ·exact h.l1
 ·exact h.l2
 ·exact h.l3
 ·exact h.l4
 ·exact h.l5
 ·exact h.l6
 ·exact h.l7
theorem scanK_hit (w : NW) (k n g : Nat) (h : vList w k 0 = some g) : scanK w (n + 1) k = some g:= by simp only [scanK,h]
theorem scanK_go (w : NW) (k n : Nat) (h : vList w k 0 = none) : scanK w (n + 1) k = scanK w n (k + 1):= by simp only [scanK,h]
theorem C_cValid (w : NW) (h : w.OK) (hv : ∀ i,i < w.mbs.length → vAt w 6 i ≠ some 1) : AC Tryz.prog f_q18 [.agg (netV w)] (amiss (vNet w)):= by
 refine ac_q18 ?_ (Nat.le_add_left 1 _) (by cases vNet w <;> rfl)
 have gm : (0 ∈ GS) = True:= eq_true (by simp [GS])
 simp only [go_sem,c_q18,netV,List.length_map]
 refine aw_loop (fun m E => ∃ k : Nat,k + m = 7 ∧ scanK w m k = vNet w ∧ E = mkE [(52,.sl (.own [52]) 3 (rowsV w)),(53,.lit (.int .i64 7)),(54,.lit (.int .i64 (k : Nat)))] [(1,netV w),(3,netV w)]) 7 ?_ ?_
 ·exact ⟨0,rfl,rfl,by simp only [go_sem]; rfl⟩
 ·rintro m _ ⟨k,hk,hs,rfl⟩
  by_cases hk7 : k < 7
  ·have f1 : ((k : Int) < 7) = True:= eq_true (by omega)
   have hw:= wrap_succ k (by omega)
   obtain ⟨m,rfl⟩ : ∃ m',m = m' + 1:= ⟨m - 1,by omega⟩
   have hr:= fun cs => avRow_some 3 (.own [52]) (AV.agg cs) rfl
   have hlen:= lenN_lt w h k
   simp only [go_sem,f1,decide_true,rowsV_get w k hk7,hr,Int.toNat_natCast,Int.natCast_nonneg]
   refine aw_loop (fun q E => ∃ i : Nat,i + q = lenN w k ∧ vList w k i = vList w k 0 ∧ E = mkE [(5,.lp 5 0),(52,.sl (.own [52]) 3 (rowsV w)),(53,.lit (.int .i64 7)),(54,.lit (.int .i64 (k : Nat))),(59,.lit (.int .i64 (lenN w k : Nat))),(60,.lit (.int .i64 (i : Nat)))] [(1,netV w),(3,netV w),(5,[.lit (.int .i64 (lenN w k : Nat)),.lit (.int .i64 (mostN k : Nat)),.clo (.func (fnN k)) [.agg (netV w)] []])]) (lenN w k) ?_ ?_
   ·exact ⟨0,by omega,rfl,by simp only [go_sem,Int.natCast_zero]⟩
   ·rintro q _ ⟨i,hi,hvi,rfl⟩
    by_cases hil : i < lenN w k
    ·have f2 : ((i : Int) < (lenN w k : Int)) = True:= eq_true (by omega)
     have hw2:= wrap_succ i (by omega)
     by_cases hm : mostN k ≤ i
     ·have f3 : ((mostN k : Int) ≤ (i : Int)) = True:= eq_true (by omega)
      have e : vNet w = some 0:= by rw [← hs]; exact scanK_hit w k m _ (by rw [← hvi]; exact vList_many w k i hil hm)
      simp only [go_sem,f2,f3,decide_true,gm,e,amiss]
     ·have f3 : ((mostN k : Int) ≤ (i : Int)) = False:= eq_false (by omega)
      simp only [go_sem,f2,f3,decide_true,decide_false,low_net]
      refine callX_of (W_at w h k i hil (fun h6 => ?_)) ?_
      ·obtain rfl : k = 6:= by omega
       exact hv i hil
      cases hva : vAt w k i with
      | some g =>
       have e : vNet w = some g:= by rw [← hs]; exact scanK_hit w k m _ (by rw [← hvi]; exact vList_some w k i g hil (by omega) hva)
       simp only [go_sem,amiss,e]
      | none =>
       simp only [go_sem,amiss,hw2]
       exact ⟨q - 1,by omega,i + 1,by omega,by rw [← hvi]; exact (vList_none w k i hil (by omega) hva).symm,rfl⟩
    ·have f2 : ((i : Int) < (lenN w k : Int)) = False:= eq_false (by omega)
     simp only [go_sem,f2,decide_false,hw]
     exact ⟨m,by omega,k + 1,by omega,by rw [← hs]; exact (scanK_go w k m (by rw [← hvi]; exact vList_end w k i (by omega))).symm,rfl⟩
  ·have f1 : ((k : Int) < 7) = False:= eq_false (by omega)
   obtain rfl : m = 0:= by omega
   rw [← hs]
   simp only [go_sem,f1,decide_false,scanK,amiss]
end Go.Proofs.YtjceingdmfogeaaGreatDoor.VL
end

section
set_option maxHeartbeats 4000000
namespace Go.Proofs.YtjceingdmfogeaaGreatDoor.VL
open Go.RowKit Go.Proofs
theorem any_take_some {α : Type} {p : α → Bool} {l : List α} {i k : Nat} {x : α} (hk : k < i) (hx : l[k]? = some x) (hp : p x = true) : (l.take i).any p = true:= by
 rw [List.any_eq_true]
 refine ⟨x,?_,hp⟩
 obtain ⟨h1,h2⟩:= List.getElem?_eq_some_iff.1 hx
 exact List.mem_iff_getElem.2 ⟨k,by simp; omega,by rw [List.getElem_take]; exact h2⟩
theorem C_rGroups : AC Tryz.prog f_q33 [] (avPfx 3758096384 4):= by
 refine ac_q33 ?_ (Nat.zero_le _)
 simp only [go_sem,c_q33,avPfx]
 rfl
theorem rt_len (w : NW) : (w.net.rts.getD []).length = w.rts.length:= rfl
theorem lk_len (w : NW) : (w.net.lks.getD []).length = w.lks.length:= rfl
theorem one_net (w : NW) : (netV w).all AV.one = true:= rfl
theorem len_net (w : NW) : (netV w).length = 7:= rfl
theorem take_net (w : NW) : (netV w).take 7 = netV w:= rfl
theorem ld_drop (l : List AV) (k : Nat) : aval.ld false 1 (l.drop k) = l[k]?:= by simp [aval.ld]
theorem avMm_max (k : IntKind) (a b : Int) : avMm true [.lit (.int k a),.lit (.int k b)] = some (.lit (.int k (if b > a then b else a))):= by
 simp [avMm,aval.litOf,Builtin.max_,Builtin.max2,p0,Pure.pure,Bind.bind,Sem.bind]
theorem avMm_min' (k : IntKind) (a b : Int) : avMm false [.lit (.int k a),.lit (.int k b)] = some (.lit (.int k (if b < a then b else a))):= by
 simp [avMm,aval.litOf,Builtin.min_,Builtin.min2,p0,Pure.pure,Bind.bind,Sem.bind]
end Go.Proofs.YtjceingdmfogeaaGreatDoor.VL
end

section
set_option maxHeartbeats 4000000
namespace Go.Proofs.YtjceingdmfogeaaGreatDoor.VL
open Go.RowKit Go.Proofs
theorem rep_own_none {E : RE} {τ : List Nat} {e : Nat} {rows : List AV} {v : Value} (h : Rep E (.sl (.own τ) e rows) v) : Rep E (.sl .none e rows) v:= by
 simp only [Rep] at h ⊢
 obtain ⟨A,cap,vs,rfl,h1,h2,h3,h4,h5⟩:= h
 refine ⟨A,cap,vs,rfl,h1,h2,h3,h4,fun hne => ?_⟩
 rcases h5 with ⟨_,h0⟩ | ⟨g,cur,ty,ha,hat,_⟩
 ·exact absurd (List.eq_nil_of_length_eq_zero (by omega)) hne
 ·exact ⟨g,0,ha,hat⟩
theorem K0_Router (t : Tok) (e : Nat) : AC Tryz.prog f_q42 [.sl t e []] (.sl .none 2 []):= by
 refine AC_hdr fun A cap => ?_
 cases A with
 | none =>
  refine AC_weak (r:= .sl .nil 0 []) (ac_q42 ?_ (Nat.le_add_left 1 _)) (fun E v h => rep_sl0 h)
  simp only [go_sem,c_q42,isNone_none]
 | some ad =>
  refine AC_weak (r:= .sl (.fr [7]) 2 []) (ac_q42 ?_ (Nat.le_add_left 1 _)) (fun E v h => rep_sl0 h)
  simp only [go_sem,c_q42,isNone_some]
  refine shiftX_of (VS.lit0 (k:= 0) (e:= 2) .none rfl (.inl rfl)) ?_
  rintro _ rfl
  simp only [mkE_put,go_sem]
  refine bslX_fr ?_
  have e : ∀ s c,avApp 2 24 [] 7 s c (.sl (.fr [5]) 2 []) (.sl .none 2 []) = _:= fun s c => avApp_fr 2 24 [] [5] [] [] .none (by decide) (by decide) rfl
  simp only [go_sem,e,List.append_nil]
theorem K_Router (rows : List AV) (hl : rows.length ≤ 4294967296) : AC Tryz.prog f_q42 [.sl .none 2 rows] (.sl .none 2 rows):= by
 by_cases h0 : rows = []
 ·subst h0
  exact K0_Router .none 2
 refine AC_weak (r:= .sl (.own [7]) 2 rows) (ac_q42 ?_ (Nat.le_add_left 1 _)) (fun E v h => rep_own_none h)
 simp only [go_sem,c_q42,avEqs_ne _ _ _ h0]
 refine shiftX_refl ?_
 simp only [go_sem]
 refine bslX_own ?_
 have e : ∀ s c,avApp 2 24 [] 7 s c (.sl (.own [5]) 2 []) (.sl .none 2 rows) = _:= fun s c => avApp_own 2 24 [] [5] [] rows .none (by simpa using hl) (by decide) rfl
 simp only [go_sem,e,List.nil_append]
theorem K0_Link (t : Tok) (e : Nat) : AC Tryz.prog f_q43 [.sl t e []] (.sl .none 3 []):= by
 refine AC_hdr fun A cap => ?_
 cases A with
 | none =>
  refine AC_weak (r:= .sl .nil 0 []) (ac_q43 ?_ (Nat.le_add_left 1 _)) (fun E v h => rep_sl0 h)
  simp only [go_sem,c_q43,isNone_none]
 | some ad =>
  refine AC_weak (r:= .sl (.fr [7]) 3 []) (ac_q43 ?_ (Nat.le_add_left 1 _)) (fun E v h => rep_sl0 h)
  simp only [go_sem,c_q43,isNone_some]
  refine shiftX_of (VS.lit0 (k:= 0) (e:= 3) .none rfl (.inl rfl)) ?_
  rintro _ rfl
  simp only [mkE_put,go_sem]
  refine bslX_fr ?_
  have e : ∀ s c,avApp 3 32 [] 7 s c (.sl (.fr [5]) 3 []) (.sl .none 3 []) = _:= fun s c => avApp_fr 3 32 [] [5] [] [] .none (by decide) (by decide) rfl
  simp only [go_sem,e,List.append_nil]
theorem K_Link (rows : List AV) (hl : rows.length ≤ 4294967296) : AC Tryz.prog f_q43 [.sl .none 3 rows] (.sl .none 3 rows):= by
 by_cases h0 : rows = []
 ·subst h0
  exact K0_Link .none 3
 refine AC_weak (r:= .sl (.own [7]) 3 rows) (ac_q43 ?_ (Nat.le_add_left 1 _)) (fun E v h => rep_own_none h)
 simp only [go_sem,c_q43,avEqs_ne _ _ _ h0]
 refine shiftX_refl ?_
 simp only [go_sem]
 refine bslX_own ?_
 have e : ∀ s c,avApp 3 32 [] 7 s c (.sl (.own [5]) 3 []) (.sl .none 3 rows) = _:= fun s c => avApp_own 3 32 [] [5] [] rows .none (by simpa using hl) (by decide) rfl
 simp only [go_sem,e,List.nil_append]
theorem K0_Port (t : Tok) (e : Nat) : AC Tryz.prog f_q44 [.sl t e []] (.sl .none 3 []):= by
 refine AC_hdr fun A cap => ?_
 cases A with
 | none =>
  refine AC_weak (r:= .sl .nil 0 []) (ac_q44 ?_ (Nat.le_add_left 1 _)) (fun E v h => rep_sl0 h)
  simp only [go_sem,c_q44,isNone_none]
 | some ad =>
  refine AC_weak (r:= .sl (.fr [7]) 3 []) (ac_q44 ?_ (Nat.le_add_left 1 _)) (fun E v h => rep_sl0 h)
  simp only [go_sem,c_q44,isNone_some]
  refine shiftX_of (VS.lit0 (k:= 0) (e:= 3) .none rfl (.inl rfl)) ?_
  rintro _ rfl
  simp only [mkE_put,go_sem]
  refine bslX_fr ?_
  have e : ∀ s c,avApp 3 24 [] 7 s c (.sl (.fr [5]) 3 []) (.sl .none 3 []) = _:= fun s c => avApp_fr 3 24 [] [5] [] [] .none (by decide) (by decide) rfl
  simp only [go_sem,e,List.append_nil]
theorem K_Port (rows : List AV) (hl : rows.length ≤ 4294967296) : AC Tryz.prog f_q44 [.sl .none 3 rows] (.sl .none 3 rows):= by
 by_cases h0 : rows = []
 ·subst h0
  exact K0_Port .none 3
 refine AC_weak (r:= .sl (.own [7]) 3 rows) (ac_q44 ?_ (Nat.le_add_left 1 _)) (fun E v h => rep_own_none h)
 simp only [go_sem,c_q44,avEqs_ne _ _ _ h0]
 refine shiftX_refl ?_
 simp only [go_sem]
 refine bslX_own ?_
 have e : ∀ s c,avApp 3 24 [] 7 s c (.sl (.own [5]) 3 []) (.sl .none 3 rows) = _:= fun s c => avApp_own 3 24 [] [5] [] rows .none (by simpa using hl) (by decide) rfl
 simp only [go_sem,e,List.nil_append]
theorem K0_Route (t : Tok) (e : Nat) : AC Tryz.prog f_q45 [.sl t e []] (.sl .none 5 []):= by
 refine AC_hdr fun A cap => ?_
 cases A with
 | none =>
  refine AC_weak (r:= .sl .nil 0 []) (ac_q45 ?_ (Nat.le_add_left 1 _)) (fun E v h => rep_sl0 h)
  simp only [go_sem,c_q45,isNone_none]
 | some ad =>
  refine AC_weak (r:= .sl (.fr [7]) 5 []) (ac_q45 ?_ (Nat.le_add_left 1 _)) (fun E v h => rep_sl0 h)
  simp only [go_sem,c_q45,isNone_some]
  refine shiftX_of (VS.lit0 (k:= 0) (e:= 5) .none rfl (.inl rfl)) ?_
  rintro _ rfl
  simp only [mkE_put,go_sem]
  refine bslX_fr ?_
  have e : ∀ s c,avApp 5 40 [] 7 s c (.sl (.fr [5]) 5 []) (.sl .none 5 []) = _:= fun s c => avApp_fr 5 40 [] [5] [] [] .none (by decide) (by decide) rfl
  simp only [go_sem,e,List.append_nil]
theorem K_Route (rows : List AV) (hl : rows.length ≤ 4294967296) : AC Tryz.prog f_q45 [.sl .none 5 rows] (.sl .none 5 rows):= by
 by_cases h0 : rows = []
 ·subst h0
  exact K0_Route .none 5
 refine AC_weak (r:= .sl (.own [7]) 5 rows) (ac_q45 ?_ (Nat.le_add_left 1 _)) (fun E v h => rep_own_none h)
 simp only [go_sem,c_q45,avEqs_ne _ _ _ h0]
 refine shiftX_refl ?_
 simp only [go_sem]
 refine bslX_own ?_
 have e : ∀ s c,avApp 5 40 [] 7 s c (.sl (.own [5]) 5 []) (.sl .none 5 rows) = _:= fun s c => avApp_own 5 40 [] [5] [] rows .none (by simpa using hl) (by decide) rfl
 simp only [go_sem,e,List.nil_append]
theorem K0_Range (t : Tok) (e : Nat) : AC Tryz.prog f_q46 [.sl t e []] (.sl .none 3 []):= by
 refine AC_hdr fun A cap => ?_
 cases A with
 | none =>
  refine AC_weak (r:= .sl .nil 0 []) (ac_q46 ?_ (Nat.le_add_left 1 _)) (fun E v h => rep_sl0 h)
  simp only [go_sem,c_q46,isNone_none]
 | some ad =>
  refine AC_weak (r:= .sl (.fr [7]) 3 []) (ac_q46 ?_ (Nat.le_add_left 1 _)) (fun E v h => rep_sl0 h)
  simp only [go_sem,c_q46,isNone_some]
  refine shiftX_of (VS.lit0 (k:= 0) (e:= 3) .none rfl (.inl rfl)) ?_
  rintro _ rfl
  simp only [mkE_put,go_sem]
  refine bslX_fr ?_
  have e : ∀ s c,avApp 3 24 [] 7 s c (.sl (.fr [5]) 3 []) (.sl .none 3 []) = _:= fun s c => avApp_fr 3 24 [] [5] [] [] .none (by decide) (by decide) rfl
  simp only [go_sem,e,List.append_nil]
theorem K_Range (rows : List AV) (hl : rows.length ≤ 4294967296) : AC Tryz.prog f_q46 [.sl .none 3 rows] (.sl .none 3 rows):= by
 by_cases h0 : rows = []
 ·subst h0
  exact K0_Range .none 3
 refine AC_weak (r:= .sl (.own [7]) 3 rows) (ac_q46 ?_ (Nat.le_add_left 1 _)) (fun E v h => rep_own_none h)
 simp only [go_sem,c_q46,avEqs_ne _ _ _ h0]
 refine shiftX_refl ?_
 simp only [go_sem]
 refine bslX_own ?_
 have e : ∀ s c,avApp 3 24 [] 7 s c (.sl (.own [5]) 3 []) (.sl .none 3 rows) = _:= fun s c => avApp_own 3 24 [] [5] [] rows .none (by simpa using hl) (by decide) rfl
 simp only [go_sem,e,List.nil_append]
theorem K0_Source (t : Tok) (e : Nat) : AC Tryz.prog f_q47 [.sl t e []] (.sl .none 3 []):= by
 refine AC_hdr fun A cap => ?_
 cases A with
 | none =>
  refine AC_weak (r:= .sl .nil 0 []) (ac_q47 ?_ (Nat.le_add_left 1 _)) (fun E v h => rep_sl0 h)
  simp only [go_sem,c_q47,isNone_none]
 | some ad =>
  refine AC_weak (r:= .sl (.fr [7]) 3 []) (ac_q47 ?_ (Nat.le_add_left 1 _)) (fun E v h => rep_sl0 h)
  simp only [go_sem,c_q47,isNone_some]
  refine shiftX_of (VS.lit0 (k:= 0) (e:= 3) .none rfl (.inl rfl)) ?_
  rintro _ rfl
  simp only [mkE_put,go_sem]
  refine bslX_fr ?_
  have e : ∀ s c,avApp 3 16 [] 7 s c (.sl (.fr [5]) 3 []) (.sl .none 3 []) = _:= fun s c => avApp_fr 3 16 [] [5] [] [] .none (by decide) (by decide) rfl
  simp only [go_sem,e,List.append_nil]
theorem K_Source (rows : List AV) (hl : rows.length ≤ 4294967296) : AC Tryz.prog f_q47 [.sl .none 3 rows] (.sl .none 3 rows):= by
 by_cases h0 : rows = []
 ·subst h0
  exact K0_Source .none 3
 refine AC_weak (r:= .sl (.own [7]) 3 rows) (ac_q47 ?_ (Nat.le_add_left 1 _)) (fun E v h => rep_own_none h)
 simp only [go_sem,c_q47,avEqs_ne _ _ _ h0]
 refine shiftX_refl ?_
 simp only [go_sem]
 refine bslX_own ?_
 have e : ∀ s c,avApp 3 16 [] 7 s c (.sl (.own [5]) 3 []) (.sl .none 3 rows) = _:= fun s c => avApp_own 3 16 [] [5] [] rows .none (by simpa using hl) (by decide) rfl
 simp only [go_sem,e,List.nil_append]
theorem K0_Member (t : Tok) (e : Nat) : AC Tryz.prog f_q48 [.sl t e []] (.sl .none 4 []):= by
 refine AC_hdr fun A cap => ?_
 cases A with
 | none =>
  refine AC_weak (r:= .sl .nil 0 []) (ac_q48 ?_ (Nat.le_add_left 1 _)) (fun E v h => rep_sl0 h)
  simp only [go_sem,c_q48,isNone_none]
 | some ad =>
  refine AC_weak (r:= .sl (.fr [7]) 4 []) (ac_q48 ?_ (Nat.le_add_left 1 _)) (fun E v h => rep_sl0 h)
  simp only [go_sem,c_q48,isNone_some]
  refine shiftX_of (VS.lit0 (k:= 0) (e:= 4) .none rfl (.inl rfl)) ?_
  rintro _ rfl
  simp only [mkE_put,go_sem]
  refine bslX_fr ?_
  have e : ∀ s c,avApp 4 40 [] 7 s c (.sl (.fr [5]) 4 []) (.sl .none 4 []) = _:= fun s c => avApp_fr 4 40 [] [5] [] [] .none (by decide) (by decide) rfl
  simp only [go_sem,e,List.append_nil]
theorem KF_Member (rows : List AV) (h0 : rows ≠ []) (hl : rows.length ≤ 4294967296) : AC Tryz.prog f_q48 [.sl .none 4 rows] (.sl (.fr [7]) 4 rows):= by
 refine ac_q48 ?_ (Nat.le_add_left 1 _)
 simp only [go_sem,c_q48,avEqs_ne _ _ _ h0]
 refine shiftX_refl ?_
 simp only [go_sem]
 refine bslX_fr ?_
 have e : ∀ s c,avApp 4 40 [] 7 s c (.sl (.fr [5]) 4 []) (.sl .none 4 rows) = _:= fun s c => avApp_fr 4 40 [] [5] [] rows .none (by simpa using hl) (by decide) rfl
 simp only [go_sem,e,List.nil_append]
theorem K0_Int (t : Tok) (e : Nat) : AC Tryz.prog f_q95 [.sl t e []] (.sl .none 1 []):= by
 refine AC_hdr fun A cap => ?_
 cases A with
 | none =>
  refine AC_weak (r:= .sl .nil 0 []) (ac_q95 ?_ (Nat.le_add_left 1 _)) (fun E v h => rep_sl0 h)
  simp only [go_sem,c_q95,isNone_none]
 | some ad =>
  refine AC_weak (r:= .sl (.fr [7]) 1 []) (ac_q95 ?_ (Nat.le_add_left 1 _)) (fun E v h => rep_sl0 h)
  simp only [go_sem,c_q95,isNone_some]
  refine shiftX_of (VS.lit0 (k:= 0) (e:= 1) .none rfl (.inl rfl)) ?_
  rintro _ rfl
  simp only [mkE_put,go_sem]
  refine bslX_fr ?_
  have e : ∀ s c,avApp 1 8 [] 7 s c (.sl (.fr [5]) 1 []) (.sl .none 1 []) = _:= fun s c => avApp_fr 1 8 [] [5] [] [] .none (by decide) (by decide) rfl
  simp only [go_sem,e,List.append_nil]
theorem KF_Int (rows : List AV) (h0 : rows ≠ []) (hl : rows.length ≤ 4294967296) : AC Tryz.prog f_q95 [.sl .none 1 rows] (.sl (.fr [7]) 1 rows):= by
 refine ac_q95 ?_ (Nat.le_add_left 1 _)
 simp only [go_sem,c_q95,avEqs_ne _ _ _ h0]
 refine shiftX_refl ?_
 simp only [go_sem]
 refine bslX_fr ?_
 have e : ∀ s c,avApp 1 8 [] 7 s c (.sl (.fr [5]) 1 []) (.sl .none 1 rows) = _:= fun s c => avApp_fr 1 8 [] [5] [] rows .none (by simpa using hl) (by decide) rfl
 simp only [go_sem,e,List.nil_append]
theorem K_Int (rows : List AV) (hl : rows.length ≤ 4294967296) : AC Tryz.prog f_q95 [.sl .none 1 rows] (.sl .none 1 rows):= by
 by_cases h0 : rows = []
 ·subst h0
  exact K0_Int .none 1
 refine AC_weak (r:= .sl (.own [7]) 1 rows) (ac_q95 ?_ (Nat.le_add_left 1 _)) (fun E v h => rep_own_none h)
 simp only [go_sem,c_q95,avEqs_ne _ _ _ h0]
 refine shiftX_refl ?_
 simp only [go_sem]
 refine bslX_own ?_
 have e : ∀ s c,avApp 1 8 [] 7 s c (.sl (.own [5]) 1 []) (.sl .none 1 rows) = _:= fun s c => avApp_own 1 8 [] [5] [] rows .none (by simpa using hl) (by decide) rfl
 simp only [go_sem,e,List.nil_append]
theorem K0_Addr (t : Tok) (e : Nat) : AC Tryz.prog f_q49 [.sl t e []] (.sl .none 1 []):= by
 refine AC_hdr fun A cap => ?_
 cases A with
 | none =>
  refine AC_weak (r:= .sl .nil 0 []) (ac_q49 ?_ (Nat.le_add_left 1 _)) (fun E v h => rep_sl0 h)
  simp only [go_sem,c_q49,isNone_none]
 | some ad =>
  refine AC_weak (r:= .sl (.fr [7]) 1 []) (ac_q49 ?_ (Nat.le_add_left 1 _)) (fun E v h => rep_sl0 h)
  simp only [go_sem,c_q49,isNone_some]
  refine shiftX_of (VS.lit0 (k:= 0) (e:= 1) .none rfl (.inl rfl)) ?_
  rintro _ rfl
  simp only [mkE_put,go_sem]
  refine bslX_fr ?_
  have e : ∀ s c,avApp 1 4 [] 7 s c (.sl (.fr [5]) 1 []) (.sl .none 1 []) = _:= fun s c => avApp_fr 1 4 [] [5] [] [] .none (by decide) (by decide) rfl
  simp only [go_sem,e,List.append_nil]
theorem K_Addr (rows : List AV) (hl : rows.length ≤ 4294967296) : AC Tryz.prog f_q49 [.sl .none 1 rows] (.sl .none 1 rows):= by
 by_cases h0 : rows = []
 ·subst h0
  exact K0_Addr .none 1
 refine AC_weak (r:= .sl (.own [7]) 1 rows) (ac_q49 ?_ (Nat.le_add_left 1 _)) (fun E v h => rep_own_none h)
 simp only [go_sem,c_q49,avEqs_ne _ _ _ h0]
 refine shiftX_refl ?_
 simp only [go_sem]
 refine bslX_own ?_
 have e : ∀ s c,avApp 1 4 [] 7 s c (.sl (.own [5]) 1 []) (.sl .none 1 rows) = _:= fun s c => avApp_own 1 4 [] [5] [] rows .none (by simpa using hl) (by decide) rfl
 simp only [go_sem,e,List.nil_append]
end Go.Proofs.YtjceingdmfogeaaGreatDoor.VL
end

section
set_option maxHeartbeats 4000000
namespace Go.Proofs.YtjceingdmfogeaaGreatDoor.VL
open Go.RowKit Go.Proofs
structure NW.Fit (w : NW) : Prop where
 l1 : w.rts.length ≤ 4294967296
 l2 : w.lks.length ≤ 4294967296
 l3 : w.pts.length ≤ 4294967296
 l4 : w.ros.length ≤ 4294967296
 l5 : w.rgs.length ≤ 4294967296
 l6 : w.scs.length ≤ 4294967296
 l7 : w.mbs.length ≤ 4294967296
 l8 : ∀ x ∈ w.mbs,x.src.length ≤ 4294967296
theorem C_cClone0 (w : NW) (h : w.Fit) (h0 : w.mbs = []) : AC Tryz.prog f_q19 [.agg (netV w)] (.agg (netV w)):= by
 refine ac_q19 ?_ (Nat.le_add_left 1 _)
 simp only [go_sem,c_q19,netV,h0,List.map_nil]
 refine callX_of (K_Router _ (by simpa using h.l1)) ?_
 simp only [go_sem]
 refine callX_of (K_Link _ (by simpa using h.l2)) ?_
 simp only [go_sem]
 refine callX_of (K_Port _ (by simpa using h.l3)) ?_
 simp only [go_sem]
 refine callX_of (K_Route _ (by simpa using h.l4)) ?_
 simp only [go_sem]
 refine callX_of (K_Range _ (by simpa using h.l5)) ?_
 simp only [go_sem]
 refine callX_of (K_Source _ (by simpa using h.l6)) ?_
 simp only [go_sem]
 refine callX_of (K0_Member _ _) ?_
 simp only [go_sem]
 refine shiftX_refl ?_
 simp only [go_sem,List.length_nil,Int.natCast_zero]
 refine aw_loop (fun m E => E = mkE [(2,.lp 2 0),(3,.lp 3 0),(29,.lit (.int .i64 0)),(30,.lit (.int .i64 0))] [(1,netV w),(2,[.sl .nil 0 [],.sl .nil 0 [],.sl .nil 0 [],.sl .nil 0 [],.sl .nil 0 [],.sl .nil 0 [],.sl .nil 0 []]),(3,netV w)]) 0 ?_ ?_
 ·simp only [go_sem,netV,h0,List.map_nil]
 ·rintro m _ rfl
  simp only [go_sem,Int.lt_irrefl,decide_false,netV,h0,List.map_nil]
theorem set_cell {s : List (Nat × AV)} {c : List (Nat × List AV)} {k i : Nat} {x : AV} {cs : List AV} (h : getC c k = some cs) : (mkE s c).set (.cell k i) x = mkE s (putA c k (cs.set i x)):= by
 simp only [Env.set,mkE_c,h,mkE_putc]
def mbCells (x : NM) : List AV:= [.lit (.int .i64 x.lk),avU x.g,.lit (.bool x.only),.sl .none 1 (x.src.map avU)]
theorem mb_cells : ∀ l : List NM,(l.map avMb).flatMap cellsOf = l.flatMap mbCells
 | [] => rfl
 | x :: l => by simp only [List.map_cons,List.flatMap_cons,mb_cells l]; rfl
theorem mb_len : ∀ l : List NM,(l.flatMap mbCells).length = l.length * 4
 | [] => rfl
 | x :: l => by simp only [List.flatMap_cons,List.length_append,mb_len l,List.length_cons,mbCells,List.length_nil]; omega
theorem mb_get : ∀ (l : List NM) (i : Nat) (x : NM) (rest : List AV),l[i]? = some x → (l.flatMap mbCells ++ rest)[i * 4 + 3]? = some (.sl .none 1 (x.src.map avU))
 | [],i,x,rest,h => by simp at h
 | y :: l,0,x,rest,h => by
  simp only [List.getElem?_cons_zero,Option.some.injEq] at h
  subst h
  rfl
 | y :: l,i + 1,x,rest,h => by
  simp only [List.getElem?_cons_succ] at h
  have:= mb_get l i x rest h
  simp only [List.flatMap_cons,List.append_assoc]
  rw [List.getElem?_append_right (by simp [mbCells]; omega)]
  rw [← this]
  congr 1
  simp only [mbCells,List.length_cons,List.length_nil]
  omega
theorem chunk_mb : ∀ (l : List NM) (rest : List AV),chunk true 4 l.length (l.flatMap mbCells ++ rest) = l.map avMb
 | [],rest => rfl
 | x :: l,rest => by
  simp only [List.flatMap_cons,List.length_cons,List.map_cons,chunk,List.append_assoc]
  have:= chunk_mb l rest
  rw [show mbCells x ++ (l.flatMap mbCells ++ rest) = [AV.lit (.int .i64 x.lk),avU x.g,AV.lit (.bool x.only),AV.sl .none 1 (x.src.map avU)] ++ (l.flatMap mbCells ++ rest) from rfl]
  simp only [List.cons_append,List.nil_append,List.take_succ_cons,List.take_zero,List.drop_succ_cons,List.drop_zero,this]
  rfl
theorem put_same {cs : List AV} {o : Nat} {x : AV} (h : cs[o]? = some x) : cs.take o ++ [x] ++ cs.drop (o + 1) = cs:= by
 obtain ⟨h1,h2⟩:= List.getElem?_eq_some_iff.1 h
 have:= List.set_eq_take_append_cons_drop (l:= cs) (i:= o) (a:= x)
 rw [if_pos h1] at this
 rw [List.append_assoc,List.singleton_append,← this,← h2,List.set_getElem_self]
theorem C_cClone (w : NW) (h : w.Fit) : AC Tryz.prog f_q19 [.agg (netV w)] (.agg (netV w)):= by
 by_cases h0 : w.mbs = []
 ·exact C_cClone0 w h h0
 refine ac_q19 ?_ (Nat.le_add_left 1 _)
 simp only [go_sem,c_q19,netV]
 refine callX_of (K_Router _ (by simpa using h.l1)) ?_
 simp only [go_sem]
 refine callX_of (K_Link _ (by simpa using h.l2)) ?_
 simp only [go_sem]
 refine callX_of (K_Port _ (by simpa using h.l3)) ?_
 simp only [go_sem]
 refine callX_of (K_Route _ (by simpa using h.l4)) ?_
 simp only [go_sem]
 refine callX_of (K_Range _ (by simpa using h.l5)) ?_
 simp only [go_sem]
 refine callX_of (K_Source _ (by simpa using h.l6)) ?_
 simp only [go_sem]
 refine callX_of (KF_Member _ (by simpa using h0) (by simpa using h.l7)) ?_
 simp only [go_sem]
 refine shiftX_of (VS.adopt (p:= .cell 3 6) (g:= true) 900 rfl (by simpa using h0) (fun r hr => ?_) (by decide) rfl) ?_
 ·obtain ⟨n,_,rfl⟩:= List.mem_map.1 hr
  rfl
 rintro _ ⟨cap,j,hcap,rfl⟩
 rw [mb_cells]
 simp only [List.length_map] at hcap ⊢
 simp only [mkE_strip]
 rw [set_cell (cs:= [.sl .none 2 (w.rts.map avRouter),.sl .none 3 (w.lks.map avLink),.sl .none 3 (w.pts.map avPort),.sl .none 5 (w.ros.map avRoute),.sl .none 3 (w.rgs.map avRange),.sl .none 3 (w.scs.map avSource),.sl .gone 4 (w.mbs.map avMb)]) (by simp only [go_sem])]
 simp only [mkE_putc]
 generalize hrest : List.replicate j AV.dead = rest
 have hl7:= h.l7
 simp only [go_sem,List.set_cons_succ,List.set_cons_zero]
 refine aw_loop (fun m E => ∃ i : Nat,i + m = w.mbs.length ∧ E = mkE [(2,.lp 2 0),(3,.lp 3 0),(29,.lit (.int .i64 (w.mbs.length : Nat))),(30,.lit (.int .i64 (i : Nat)))] [(1,netV w),(2,[.sl .nil 0 [],.sl .nil 0 [],.sl .nil 0 [],.sl .nil 0 [],.sl .nil 0 [],.sl .nil 0 [],.sl .nil 0 []]),(3,[.sl .none 2 (w.rts.map avRouter),.sl .none 3 (w.lks.map avLink),.sl .none 3 (w.pts.map avPort),.sl .none 5 (w.ros.map avRoute),.sl .none 3 (w.rgs.map avRange),.sl .none 3 (w.scs.map avSource),.ml 900 0 w.mbs.length cap true 4]),(900,w.mbs.flatMap mbCells ++ rest)]) w.mbs.length ?_ ?_
 ·exact ⟨0,by omega,by simp only [go_sem,Int.natCast_zero]; rfl⟩
 ·rintro m _ ⟨i,hi,rfl⟩
  by_cases hil : i < w.mbs.length
  ·have f1 : ((i : Int) < (w.mbs.length : Int)) = True:= eq_true (by omega)
   obtain ⟨x,hx⟩ : ∃ x,w.mbs[i]? = some x:= ⟨w.mbs[i],List.getElem?_eq_getElem hil⟩
   have hw:= wrap_succ i (by omega)
   have hg:= mb_get w.mbs i x rest hx
   have hld : aval.ld false 1 ((w.mbs.flatMap mbCells ++ rest).drop (i * 4 + 3)) = some (.sl .none 1 (x.src.map avU)):= (ld_drop _ _).trans hg
   have hK:= K_Addr (x.src.map avU) (by simpa using h.l8 x (List.mem_of_getElem? hx))
   have hln : i * 4 + 3 + 1 ≤ (w.mbs.flatMap mbCells ++ rest).length:= by rw [List.length_append,mb_len]; omega
   have hps:= put_same hg
   simp only [go_sem,f1,decide_true,Int.toNat_natCast,Int.natCast_nonneg,Nat.zero_add,hld]
   refine callX_of hK ?_
   simp only [go_sem,f1,Int.toNat_natCast,Int.natCast_nonneg,Nat.zero_add,hln,hps,hw]
   exact ⟨m - 1,by omega,i + 1,by omega,rfl⟩
  ·obtain rfl : i = w.mbs.length:= by omega
   have f1 : ((w.mbs.length : Int) < (w.mbs.length : Int)) = False:= eq_false (by omega)
   have hret : ∀ C,retM C 6 0 w.mbs.length cap true 4 (some (w.mbs.flatMap mbCells ++ rest)) = some (.sl .none 4 (w.mbs.map avMb)):= by
    intro C
    rw [retM_some (l:= (w.mbs.flatMap mbCells ++ rest).take (w.mbs.length * 4)) 0 w.mbs.length cap true 4 _ ⟨by rw [List.length_append,mb_len]; omega,hcap,.inl rfl⟩ ?_,List.take_append_of_le_length (by rw [mb_len]; omega),List.take_of_length_le (by rw [mb_len]; omega)]
    ·have:= chunk_mb w.mbs []
     rw [List.append_nil] at this
     rw [this]
    ·rw [List.drop_zero]
     refine mapO_id fun y hy => ?_
     rw [List.take_append_of_le_length (by rw [mb_len]; omega)] at hy
     obtain ⟨z,_,hz⟩:= List.mem_flatMap.1 (List.mem_of_mem_take hy)
     simp only [mbCells,List.mem_cons,List.not_mem_nil,or_false] at hz
     rcases hz with rfl | rfl | rfl | rfl <;> rfl
   simp only [go_sem,f1,decide_false,hret]
end Go.Proofs.YtjceingdmfogeaaGreatDoor.VL
end

section
set_option maxHeartbeats 4000000
namespace Go.Proofs.YtjceingdmfogeaaGreatDoor.VL
open Go.RowKit Go.Proofs
def avI (n : Nat) : AV:= .lit (.int .i64 (n : Nat))
def idxK (q : Nat → Bool) (k : Nat) : List Nat:= (List.range k).filter q
theorem idxK_zero (q : Nat → Bool) : idxK q 0 = []:= rfl
theorem idxK_succ (q : Nat → Bool) (k : Nat) : idxK q (k + 1) = if q k = true then idxK q k ++ [k] else idxK q k:= by
 simp only [idxK,List.range_succ,List.filter_append,List.filter_cons,List.filter_nil]
 split <;> simp
theorem idxK_len (q : Nat → Bool) (k : Nat) : (idxK q k).length ≤ k:= by
 have:= List.length_filter_le q (List.range k)
 simpa [idxK] using this
def slI (τ : List Nat) (l : List Nat) : AV:= if l = [] then .sl .nil 0 [] else .sl (.own τ) 1 (l.map avI)
def rowsT (b : Nat) (f : Nat → List Nat) (n : Nat) : List AV:= (List.range n).map fun j => slI [b,j] (f j)
theorem rowsT_len (b : Nat) (f : Nat → List Nat) (n : Nat) : (rowsT b f n).length = n:= by simp [rowsT]
theorem rowsT_get (b : Nat) (f : Nat → List Nat) (n j : Nat) (h : j < n) : (rowsT b f n)[j]? = some (slI [b,j] (f j)):= by simp [rowsT,h]
theorem rowsT_nil (b : Nat) (n : Nat) : rowsT b (fun _ => []) n = List.replicate n (.sl .nil 0 []):= by
 rw [List.eq_replicate_iff]
 refine ⟨rowsT_len _ _ _,fun x hx => ?_⟩
 obtain ⟨j,_,rfl⟩:= List.mem_map.1 hx
 rfl
theorem rowsT_congr {b : Nat} {f g : Nat → List Nat} {n : Nat} (h : ∀ j,j < n → f j = g j) : rowsT b f n = rowsT b g n:= by
 refine List.map_congr_left fun j hj => ?_
 rw [h j (List.mem_range.1 hj)]
theorem relabL_map (τ τ' : List Nat) (l : List AV) : relabL τ τ' l = l.map (relab τ τ'):= by
 induction l with
 | nil => rfl
 | cons y ys ih => simp [relabL,ih]
theorem killL_map (n : Nat) (l : List AV) : killL n l = l.map (kill n):= by
 induction l with
 | nil => rfl
 | cons y ys ih => simp [killL,ih]
theorem renewL_map (τ : List Nat) (ks : List Value) (vs : List AV) (l : List AV) : renewL τ ks vs l = l.map (renew τ ks vs):= by
 induction l with
 | nil => rfl
 | cons y ys ih => simp [renewL,ih]
theorem killnL_map (p : List Nat → Bool) (l : List AV) : killnL p l = l.map (killn p):= by
 induction l with
 | nil => rfl
 | cons y ys ih => simp [killnL,ih]
theorem map_self {f : AV → AV} {l : List AV} (h : ∀ x ∈ l,f x = x) : l.map f = l:= by
 have:= List.map_congr_left h
 rwa [List.map_id'] at this
theorem strip_rows (τ : List Nat) (b : Nat) (f : Nat → List Nat) (n : Nat) (h : ∀ j,[b,j] ≠ τ) : stripL τ (rowsT b f n) = rowsT b f n:= by
 rw [stripL_map]
 refine map_self fun x hx => ?_
 obtain ⟨j,_,rfl⟩:= List.mem_map.1 hx
 unfold slI
 split
 ·rfl
 ·simp only [strip_own,if_neg (h j)]
theorem relab_rows (τ τ' : List Nat) (b : Nat) (f : Nat → List Nat) (n : Nat) (h : ∀ j,[b,j] ≠ τ ∧ [b,j] ≠ τ') : relabL τ τ' (rowsT b f n) = rowsT b f n:= by
 rw [relabL_map]
 refine map_self fun x hx => ?_
 obtain ⟨j,_,rfl⟩:= List.mem_map.1 hx
 unfold slI
 split
 ·rfl
 ·simp only [relab_own,if_neg (h j).1,if_neg (h j).2]
theorem kill_rows (m : Nat) (b : Nat) (f : Nat → List Nat) (n : Nat) : killL m (rowsT b f n) = rowsT b f n:= by
 rw [killL_map]
 refine map_self fun x hx => ?_
 obtain ⟨j,_,rfl⟩:= List.mem_map.1 hx
 unfold slI
 split <;> rfl
theorem renew_rows (τ : List Nat) (ks : List Value) (vs : List AV) (b : Nat) (f : Nat → List Nat) (n : Nat) : renewL τ ks vs (rowsT b f n) = rowsT b f n:= by
 rw [renewL_map]
 refine map_self fun x hx => ?_
 obtain ⟨j,_,rfl⟩:= List.mem_map.1 hx
 unfold slI
 split <;> rfl
theorem strip_set (b : Nat) (f : Nat → List Nat) (n k : Nat) (x : AV) : (stripL [b,k] (rowsT b f n)).set k x = (rowsT b f n).set k x:= by
 rw [stripL_map]
 apply List.ext_getElem?
 intro j
 rw [List.getElem?_set,List.getElem?_set,List.length_map]
 split
 ·rfl
 ·rename_i hj
  rw [List.getElem?_map]
  cases hx : (rowsT b f n)[j]? with
  | none => rfl
  | some y =>
   have hjn : j < n:= by have:= (List.getElem?_eq_some_iff.1 hx).1; rwa [rowsT_len] at this
   rw [rowsT_get b f n j hjn] at hx
   injection hx with hx
   rw [← hx]
   simp only [Option.map_some,slI]
   split
   ·rfl
   ·rw [strip_own,if_neg (by simp; omega)]
theorem relab_set (b : Nat) (f : Nat → List Nat) (n k : Nat) (l : List Nat) (hk : k < n) (hl : l ≠ []) : relabL [b] [b,k] ((rowsT b f n).set k (.sl (.own [b]) 1 (l.map avI))) = rowsT b (fun j => if j = k then l else f j) n:= by
 rw [relabL_map]
 apply List.ext_getElem?
 intro j
 rw [List.getElem?_map,List.getElem?_set,rowsT_len]
 by_cases hjn : j < n
 ·have hR:= rowsT_get b (fun j => if j = k then l else f j) n j hjn
  rw [hR]
  by_cases hjk : k = j
  ·subst hjk
   simp only [if_pos hk,if_true,Option.map_some,relab_own,slI,if_neg hl]
  ·rw [if_neg hjk,rowsT_get b f n j hjn]
   have hjk2 : ¬ j = k:= fun e => hjk e.symm
   simp only [Option.map_some,slI,if_neg hjk2]
   split
   ·rfl
   ·rw [relab_own,if_neg (by simp),if_neg (by simp; omega)]
 ·have h1 : (rowsT b (fun j => if j = k then l else f j) n)[j]? = none:= List.getElem?_eq_none (by rw [rowsT_len]; omega)
  have h2 : (rowsT b f n)[j]? = none:= List.getElem?_eq_none (by rw [rowsT_len]; omega)
  rw [if_neg (by omega),h1,h2]
  rfl
def rowsN (f : Nat → List Nat) (n : Nat) : List AV:= (List.range n).map fun j => if f j = [] then .sl .nil 0 [] else .sl .none 1 ((f j).map avI)
theorem close_rows (b : Nat) (f : Nat → List Nat) (n : Nat) : mapO closeV (rowsT b f n) = some (rowsN f n):= by
 unfold rowsT rowsN
 generalize List.range n = r
 induction r with
 | nil => rfl
 | cons j r ih =>
  have e : closeV (slI [b,j] (f j)) = some (if f j = [] then .sl .nil 0 [] else .sl .none 1 ((f j).map avI)):= by
   unfold slI
   split <;> rfl
  simp only [List.map_cons,mapO,e,ih]
def onQ (w : NW) (j i : Nat) : Bool:= match w.pts[i]? with | some p => p.lk == (j : Int) | none => false
def ofQ (w : NW) (j i : Nat) : Bool:= match w.pts[i]? with | some p => p.rt == (j : Int) | none => false
def mbQ (w : NW) (j i : Nat) : Bool:= match w.mbs[i]? with | some p => p.lk == (j : Int) | none => false
theorem len_le {w : NW} (hv : vNet w = none) (k : Nat) (hk : k < 7) : lenN w k ≤ mostN k:= by
 rcases Nat.lt_or_ge (mostN k) (lenN w k) with h | h
 ·have:= (vNet_ok hv k (mostN k) hk h).1
  omega
 ·exact h
structure PortOK (w : NW) (i : Nat) (x : NPt) : Prop where
 rt : ∃ r : Nat,x.rt = (r : Int) ∧ r < w.rts.length
 lk : ∃ k : Nat,x.lk = (k : Int) ∧ k < w.lks.length
 on : onAt w.net x.lk x.a = true
 one : ∀ (j : Nat) (y : NPt),j < i → w.pts[j]? = some y → p_port_1 x y = false
theorem placeN_iff {i : Int} {n : Nat} : placeN i n = true ↔ ∃ k : Nat,i = (k : Int) ∧ k < n:= by
 simp only [placeN,Bool.and_eq_true,decide_eq_true_eq]
 exact ⟨fun ⟨a,b⟩ => ⟨i.toNat,by omega,by omega⟩,fun ⟨k,a,b⟩ => ⟨by omega,by omega⟩⟩
theorem any_take_false {α : Type} {p : α → Bool} {l : List α} {i : Nat} (h : (l.take i).any p = false) : ∀ (j : Nat) (y : α),j < i → l[j]? = some y → p y = false:= by
 intro j y hj hy
 cases hp : p y with
 | false => rfl
 | true => rw [any_take_some hj hy hp] at h; cases h
theorem ite_none {c : Prop} [Decidable c] {g : Nat} {r : Option Nat} (h : (if c then some g else r) = none) : ¬ c ∧ r = none:= by
 split at h
 ·cases h
 ·exact ⟨by assumption,h⟩
theorem portOK {w : NW} (hv : vNet w = none) {i : Nat} {x : NPt} (hx : w.pts[i]? = some x) : PortOK w i x:= by
 have hi : i < w.pts.length:= (List.getElem?_eq_some_iff.1 hx).1
 have h:= (vNet_ok hv 2 i (by decide) hi).2
 simp only [vAt,hx,Option.bind_some,ptOf,rt_len,lk_len] at h
 obtain ⟨h1,h⟩:= ite_none h
 obtain ⟨h2,h⟩:= ite_none h
 obtain ⟨h3,h⟩:= ite_none h
 simp only [Bool.not_eq_false,Bool.and_eq_true] at h1
 exact ⟨placeN_iff.1 h1.1,placeN_iff.1 h1.2,by simpa using h2,any_take_false (by simpa using h3)⟩
structure MemOK (w : NW) (x : NM) : Prop where
 lk : ∃ k : Nat,x.lk = (k : Int) ∧ k < w.lks.length
 g : groupN x.g = true
 host : ∀ a ∈ x.src,hostN a = true
 few : x.src.length ≤ 4
 one : x.src.Nodup
theorem memOK {w : NW} (hv : vNet w = none) {i : Nat} {x : NM} (hx : w.mbs[i]? = some x) : MemOK w x:= by
 have hi : i < w.mbs.length:= (List.getElem?_eq_some_iff.1 hx).1
 have h:= (vNet_ok hv 6 i (by decide) hi).2
 simp only [vAt,hx,Option.bind_some,mbOf] at h
 obtain ⟨h1,h⟩:= ite_none h
 obtain ⟨h2,h⟩:= ite_none h
 obtain ⟨h3,h⟩:= ite_none h
 obtain ⟨h4,h⟩:= ite_none h
 simp only [Bool.not_eq_true,Bool.or_eq_false_iff,Bool.not_eq_false',List.any_eq_false] at h2
 exact ⟨placeN_iff.1 (by simpa using h1),h2.1,fun a ha => by have:= h2.2 a ha; simpa using this,by simpa using h3,by simpa using h4⟩
theorem VS.mono {E : Env} {S T : Env → Prop} (h : VS E S) (hT : ∀ E',S E' → T E') : VS E T:= h.trans fun E' hS => VS.refl (hT E' hS)
theorem VS.tell {E : Env} {p : Spot} {x y : AV} (hp : E.at p = some x) (h : ∀ (F : RE) (v : Value),Rep F x v → Rep F y v) : VS E fun E' => E' = E.set p y:= by
 intro R N a F hR hI
 obtain ⟨v,hv,hset⟩:= hI.atSpot hp
 exact ⟨_,F,rfl,rfl,hset hI rfl (fun c i _ => rfl) (h F v hv) ⟨x,hp⟩⟩
theorem rep_nil_fr {F : RE} {e e' : Nat} {τ : List Nat} {v : Value} (h : Rep F (.sl .nil e []) v) : Rep F (.sl (.fr τ) e' []) v:= by
 simp only [Rep] at h ⊢
 obtain ⟨A,cap,vs,rfl,h1,h2,h3,h4,h5⟩:= h
 have : vs = []:= by simpa [RepL] using h2
 subst this
 exact ⟨A,cap,[],rfl,h1,h2,by simp,h4,.inl ⟨trivial,h5.2⟩⟩
theorem back_0c (s : List (Nat × AV)) (x y : List AV) (c' : List (Nat × List AV)) : backC [(0,100000)] [(100000,y)] (mkE s ((0,x) :: c')) = mkE s ((0,y) :: c'):= by
 simp only [backC,mkE]
 congr 1
 funext c
 by_cases h2 : c = 0
 ·subst h2; rfl
 ·simp [lentAs,getC,h2]
theorem call0c_of {P : Program} {dst : Option Nat} {os : List AOper} {s : List (Nat × AV)} {c' : List (Nat × List AV)} {K : Env → Prop} {f : FuncId} {raw al : List AV} {args : Option (List AV)} {r : AV} {l : List Int} {tl y : List AV} (ht : Tl tl)
  (hl : mapO (lowerM [(0,100000)] (getC ((0,l.map aI ++ tl) :: c')) 8) raw = some al) (h : AM P f al [(100000,l.map aI ++ tl)] r [(100000,y)])
  (hk : awX false P os ((mkE s ((0,y) :: c')).putO dst (retag (dst.getD 0) (unlend [(0,100000)] r))) K) : callX false P dst os s ((0,l.map aI ++ tl) :: c') K f raw args:= by
 refine callM_of [(0,100000)] rfl hl ?_ h ?_
 ·show mapO _ _ = _
  have:= close_dC l.toArray ht
  rw [show dC l.toArray tl = l.map aI ++ tl by simp [dC]] at this
  simp only [mapO_cons,mapO_nil,getC_cons,↓reduceIte,this,catO_some]
 ·rw [back_0c]
  exact hk
theorem cutA {P : Program} {a b : ACode} {E : Env} {K : Env → Prop} {Q : AExit → Env → Prop} (F : Env → Prop) (h : aw P a E (thenQ (fun E' => aw P b E' (thenQ F Q)) (thenQ F Q))) (hF : ∀ E',F E' → K E') :
  aw P a E (thenQ (fun E' => aw P b E' (thenQ K Q)) (thenQ K Q)):= by
 have key : ∀ ex E',thenQ F Q ex E' → thenQ K Q ex E':= fun ex E' h => by
  cases ex with
  | normal => exact hF _ h
  | exit i => exact h
  | ret => exact h
 refine aw_mono a (fun ex E' h => ?_) h
 cases ex with
 | normal => exact aw_mono b key h
 | exit i => exact key (.exit i) _ h
 | ret => exact key .ret _ h
theorem cutS {P : Program} {a b : ACode} {s : List (Nat × AV)} {c : List (Nat × List AV)} {K : Env → Prop} {Q : AExit → Env → Prop} (F : Env → Prop) (h : shiftX P a s c (thenQ (fun E' => aw P b E' (thenQ F Q)) (thenQ F Q))) (hF : ∀ E',F E' → K E') :
  shiftX P a s c (thenQ (fun E' => aw P b E' (thenQ K Q)) (thenQ K Q)):= cutA F h hF
theorem awX_mono {P : Program} {D : Bool} {os : List AOper} {E : Env} {K K' : Env → Prop} (hk : ∀ E,K E → K' E) (h : awX D P os E K) : awX D P os E K':= by
 cases D with
 | true => exact AM_mk.awOpsD_mono os hk h
 | false => exact AM_mk.awOps_mono os hk h
theorem cutR {P : Program} {o : Option Env} {D : Bool} {os : List AOper} {b : ACode} {kl : List Nat} {Q : AExit → Env → Prop} (E1 : Env) (h1 : bindE o D P os (fun E' => E'.dropS kl = E1)) (h2 : aw P b E1 Q) : bindE o D P os (fun E' => aw P b (E'.dropS kl) Q):= by
 unfold bindE at h1 ⊢
 split at h1
 ·exact awX_mono (fun E e => by rw [e]; exact h2) h1
 ·exact h1.elim
theorem aw_seq' {P : Program} {a b : ACode} {E : Env} {Q : AExit → Env → Prop} : aw P (.seq a b) E Q = aw P a E (thenQ (fun E' => aw P b E' Q) Q):= rfl
theorem merge {P : Program} {a : ACode} {Q : AExit → Env → Prop} {F S : Env → Prop} (h1 : ∀ E,F E → VS E S) (h2 : ∀ E,S E → aw P a E Q) (E : Env) (h : F E) : aw P (.shift a) E Q:= ⟨S,h1 E h,h2⟩
def tC (w : NW) (on of tat mb gr : AV) : List AV:= [.sl .none 2 (w.rts.map avRouter),.sl .none 3 (w.lks.map avLink),.sl .none 3 (w.pts.map avPort),.sl .none 5 (w.ros.map avRoute),.sl .none 3 (w.rgs.map avRange),.sl .none 3 (w.scs.map avSource),.sl .none 4 (w.mbs.map avMb),on,of,tat,mb,gr]
def keysP (w : NW) (i : Nat) : List Value:= (w.pts.take i).map fun p => .int .u32 (p.a : Nat)
def valsP (i : Nat) : List AV:= (List.range i).map avI
theorem keyAt_none (k : Value) : ∀ (l : List Value) (i : Nat),(∀ x ∈ l,keyEq false k x = some false) → keyAt false k l i = some none
 | [],i,_ => rfl
 | x :: l,i,h => by
  simp only [keyAt,h x (by simp)]
  exact keyAt_none k l (i + 1) fun y hy => h y (by simp [hy])
theorem take_succ_map {α β : Type} (f : α → β) {l : List α} {i : Nat} {x : α} (hx : l[i]? = some x) : (l.take (i + 1)).map f = (l.take i).map f ++ [f x]:= by
 rw [List.take_add_one,hx]
 simp
theorem put_keys {w : NW} {i : Nat} {x : NPt} (hx : w.pts[i]? = some x) (hd : ∀ (j : Nat) (y : NPt),j < i → w.pts[j]? = some y → y.a ≠ x.a) :
  mapPut false (keysP w i) (valsP i) (.int .u32 (x.a : Nat)) (avI i) = some (keysP w (i + 1),valsP (i + 1)):= by
 have hk : keyAt false (.int .u32 (x.a : Nat)) (keysP w i) 0 = some none:= by
  refine keyAt_none _ _ _ fun y hy => ?_
  obtain ⟨p,hp,rfl⟩:= List.mem_map.1 hy
  obtain ⟨j,hj,e⟩:= List.mem_iff_getElem.1 hp
  simp only [List.length_take] at hj
  rw [List.getElem_take] at e
  have:= hd j p (by omega) (by rw [List.getElem?_eq_getElem (by omega),e])
  simp only [keyEq,if_true,Option.some.injEq,beq_eq_false_iff_ne,ne_eq]
  omega
 have e1 : keysP w (i + 1) = keysP w i ++ [.int .u32 (x.a : Nat)]:= take_succ_map _ hx
 have e2 : valsP (i + 1) = valsP i ++ [avI i]:= by simp [valsP,List.range_succ]
 simp only [mapPut,hk,e1,e2]
theorem strip_rows_set (τ : List Nat) (b : Nat) (f : Nat → List Nat) (n k : Nat) (l : List AV) (h : ∀ j,[b,j] ≠ τ) (h2 : [b] ≠ τ) : stripL τ ((rowsT b f n).set k (.sl (.own [b]) 1 l)) = (rowsT b f n).set k (.sl (.own [b]) 1 l):= by
 have:= strip_rows τ b f n h
 rw [stripL_map] at this ⊢
 rw [List.map_set,this,strip_own,if_neg h2]
theorem relab_rows_set (τ τ' : List Nat) (b : Nat) (f : Nat → List Nat) (n k : Nat) (l : List AV) (h : ∀ j,[b,j] ≠ τ ∧ [b,j] ≠ τ') (h2 : [b] ≠ τ ∧ [b] ≠ τ') : relabL τ τ' ((rowsT b f n).set k (.sl (.own [b]) 1 l)) = (rowsT b f n).set k (.sl (.own [b]) 1 l):= by
 have:= relab_rows τ τ' b f n h
 rw [relabL_map] at this ⊢
 rw [List.map_set,this,relab_own,if_neg h2.1,if_neg h2.2]
theorem renew_rows_set (τ : List Nat) (ks : List Value) (vs : List AV) (b : Nat) (f : Nat → List Nat) (n k : Nat) (l : List AV) : renewL τ ks vs ((rowsT b f n).set k (.sl (.own [b]) 1 l)) = (rowsT b f n).set k (.sl (.own [b]) 1 l):= by
 have:= renew_rows τ ks vs b f n
 rw [renewL_map] at this ⊢
 rw [List.map_set,this]
 rfl
def DD (r : List AV) : Prop:= ∀ x ∈ r,x = .dead
theorem DD.strip {r : List AV} (h : DD r) (τ : List Nat) (l : List AV) : stripL τ (l ++ r) = stripL τ l ++ r:= by
 rw [stripL_map,stripL_map,List.map_append,map_self (l:= r) fun x hx => by rw [h x hx]; rfl]
theorem DD.relab {r : List AV} (h : DD r) (τ τ' : List Nat) (l : List AV) : relabL τ τ' (l ++ r) = relabL τ τ' l ++ r:= by
 rw [relabL_map,relabL_map,List.map_append,map_self (l:= r) fun x hx => by rw [h x hx]; rfl]
theorem DD.kill {r : List AV} (h : DD r) (m : Nat) (l : List AV) : killL m (l ++ r) = killL m l ++ r:= by
 rw [killL_map,killL_map,List.map_append,map_self (l:= r) fun x hx => by rw [h x hx]; rfl]
theorem DD.renew {r : List AV} (h : DD r) (τ : List Nat) (ks : List Value) (vs : List AV) (l : List AV) : renewL τ ks vs (l ++ r) = renewL τ ks vs l ++ r:= by
 rw [renewL_map,renewL_map,List.map_append,map_self (l:= r) fun x hx => by rw [h x hx]; rfl]
theorem DD.killn {r : List AV} (h : DD r) (p : List Nat → Bool) (l : List AV) : killnL p (l ++ r) = killnL p l ++ r:= by
 rw [killnL_map,killnL_map,List.map_append,map_self (l:= r) fun x hx => by rw [h x hx]; rfl]
theorem DD.rep (j : Nat) : DD (List.replicate j .dead):= fun x hx => List.eq_of_mem_replicate hx
theorem put_set (l r : List AV) (k : Nat) (x : AV) (hk : k < l.length) : (l ++ r).take k ++ [x] ++ (l ++ r).drop (k + 1) = l.set k x ++ r:= by
 rw [List.take_append_of_le_length (by omega),List.drop_append_of_le_length (by omega),← List.append_assoc,List.set_eq_take_append_cons_drop,if_pos hk]
 simp
end Go.Proofs.YtjceingdmfogeaaGreatDoor.VL
end

section
set_option maxHeartbeats 4000000
namespace Go.Proofs.YtjceingdmfogeaaGreatDoor.VL
open Go.RowKit Go.Proofs
def nilR (n : Nat) : List AV:= List.replicate n (.sl .nil 0 [])
theorem nilR_len (n : Nat) : (nilR n).length = n:= by simp [nilR]
theorem nilR_ne {n : Nat} (h : 0 < n) : nilR n ≠ []:= fun e => by have:= congrArg List.length e; rw [nilR_len] at this; simp at this; omega
theorem nilR_row (n : Nat) : ∀ r ∈ nilR n,r.row = true:= fun r hr => by rw [List.eq_of_mem_replicate hr]; rfl
theorem nilR_cells (n : Nat) : (nilR n).flatMap cellsOf = nilR n:= by
 unfold nilR
 induction n with
 | zero => rfl
 | succ n ih => rw [List.replicate_succ,List.flatMap_cons,ih]; rfl
theorem nilR_map {f : AV → AV} (h : f (.sl .nil 0 []) = .sl .nil 0 []) (n : Nat) : (nilR n).map f = nilR n:= by rw [nilR,List.map_replicate,h]
theorem nilR_strip {r : List AV} (hr : DD r) (τ : List Nat) (n : Nat) : stripL τ (nilR n ++ r) = nilR n ++ r:= by rw [hr.strip,stripL_map,nilR_map rfl]
def E12 (w : NW) (on of : AV) (more : List (Nat × List AV)) : Env:= mkE [(1,.lp 1 0),(5,.lp 33 0)] ((1,netV w) :: (33,tC w on of (.mu [0] (keysP w w.pts.length) (valsP w.pts.length)) (.sl (.fr [31]) 1 (nilR w.lks.length)) (.sl .nil 0 [])) :: more)
def F12 (w : NW) (E : Env) : Prop :=
 (w.pts = [] ∧ E = E12 w (.sl (.fr [22]) 1 (nilR w.lks.length)) (.sl (.fr [26]) 1 (nilR w.rts.length)) []) ∨
 ∃ cap1 cap2 r1 r2,w.lks.length ≤ cap1 ∧ w.rts.length ≤ cap2 ∧ DD r1 ∧ DD r2 ∧ E = E12 w (.ml 907 0 w.lks.length cap1 false 1) (.ml 908 0 w.rts.length cap2 false 1) [(907,rowsT 58 (fun j => idxK (onQ w j) w.pts.length) w.lks.length ++ r1),(908,rowsT 76 (fun j => idxK (ofQ w j) w.pts.length) w.rts.length ++ r2)]
theorem kill_net (m : Nat) (w : NW) : killL m (netV w) = netV w:= rfl
theorem strip_net (τ : List Nat) (w : NW) : stripL τ (netV w) = netV w:= rfl
theorem relab_net (τ τ' : List Nat) (w : NW) : relabL τ τ' (netV w) = netV w:= rfl
theorem renew_net (τ : List Nat) (ks : List Value) (vs : List AV) (w : NW) : renewL τ ks vs (netV w) = netV w:= rfl
def ONv (w : NW) : AV:= .sl .none 1 (rowsN (fun j => idxK (onQ w j) w.pts.length) w.lks.length)
def OFv (w : NW) : AV:= .sl .none 1 (rowsN (fun j => idxK (ofQ w j) w.pts.length) w.rts.length)
def MBv (w : NW) : AV:= .sl .none 1 (rowsN (fun j => idxK (mbQ w j) w.mbs.length) w.lks.length)
def ATv (w : NW) : AV:= .mu [0] (keysP w w.pts.length) (valsP w.pts.length)
def F18 (w : NW) (E : Env) : Prop :=
 (w.mbs = [] ∧ E = mkE [(1,.lp 1 0),(5,.lp 33 0)] [(1,netV w),(33,tC w (ONv w) (OFv w) (ATv w) (.sl (.fr [31]) 1 (nilR w.lks.length)) (.sl (.fr [120]) 1 []))]) ∨
 ∃ cap r,w.lks.length ≤ cap ∧ DD r ∧ E = mkE [(1,.lp 1 0),(5,.lp 33 0)] [(1,netV w),(33,tC w (ONv w) (OFv w) (ATv w) (.ml 910 0 w.lks.length cap false 1) (.sl (.fr [120]) 1 ((w.mbs.map fun x => x.g).map avU))),(910,rowsT 110 (fun j => idxK (mbQ w j) w.mbs.length) w.lks.length ++ r)]
theorem rowsN_nil (n : Nat) : rowsN (fun _ => []) n = nilR n:= by
 rw [nilR,List.eq_replicate_iff]
 refine ⟨by simp [rowsN],fun x hx => ?_⟩
 obtain ⟨j,_,rfl⟩:= List.mem_map.1 hx
 rfl
theorem rowsN_len (f : Nat → List Nat) (n : Nat) : (rowsN f n).length = n:= by simp [rowsN]
theorem chunk_one : ∀ l : List AV,chunk false 1 l.length l = l
 | [] => rfl
 | a :: l => by simp only [List.length_cons,chunk,List.take_succ_cons,List.take_zero,List.headD_cons,List.drop_succ_cons,List.drop_zero,chunk_one l]
theorem close_part (b : Nat) (f : Nat → List Nat) (n : Nat) (r : List AV) : mapO closeV (((rowsT b f n ++ r).drop 0).take (n * 1)) = some (rowsN f n):= by
 rw [List.drop_zero,Nat.mul_one,List.take_append_of_le_length (by rw [rowsT_len]; exact Nat.le_refl _),List.take_of_length_le (by rw [rowsT_len]; exact Nat.le_refl _)]
 exact close_rows b f n
theorem fz12 (w : NW) (E : Env) (hE : F12 w E) : VS E fun E' => E' = mkE [(1,.lp 1 0),(5,.lp 33 0)] [(1,netV w),(33,tC w (ONv w) (OFv w) (ATv w) (.sl (.fr [31]) 1 (nilR w.lks.length)) (.sl (.fr [120]) 1 []))]:= by
 rcases hE with ⟨h0,rfl⟩ | ⟨cap1,cap2,r1,r2,hc1,hc2,hr1,hr2,rfl⟩
 ·have e1 : ONv w = .sl .none 1 (nilR w.lks.length):= by simp only [ONv,h0,List.length_nil,idxK_zero,rowsN_nil]
  have e2 : OFv w = .sl .none 1 (nilR w.rts.length):= by simp only [OFv,h0,List.length_nil,idxK_zero,rowsN_nil]
  rw [e1,e2]
  unfold E12
  refine VS.trans (VS.freeze (p:= .cell 33 7) rfl) ?_
  rintro _ rfl
  simp only [mkE_strip]
  simp only [go_sem,strip_net,tC]
  rw [set_cell (cs:= tC w (.sl .gone 1 (nilR w.lks.length)) (.sl (.fr [26]) 1 (nilR w.rts.length)) (ATv w) (.sl (.fr [31]) 1 (nilR w.lks.length)) (.sl .nil 0 [])) (by simp only [go_sem]; rfl)]
  simp only [go_sem,tC,List.set_cons_succ,List.set_cons_zero]
  refine VS.trans (VS.freeze (p:= .cell 33 8) rfl) ?_
  rintro _ rfl
  simp only [mkE_strip]
  simp only [go_sem,strip_net,ATv]
  rw [set_cell (cs:= tC w (.sl .none 1 (nilR w.lks.length)) (.sl .gone 1 (nilR w.rts.length)) (ATv w) (.sl (.fr [31]) 1 (nilR w.lks.length)) (.sl .nil 0 [])) (by simp only [go_sem]; rfl)]
  simp only [go_sem,tC,List.set_cons_succ,List.set_cons_zero]
  refine VS.mono (VS.tell (p:= .cell 33 11) (y:= .sl (.fr [120]) 1 []) rfl fun F v h => rep_nil_fr h) ?_
  rintro _ rfl
  rw [set_cell (cs:= tC w (.sl .none 1 (nilR w.lks.length)) (.sl .none 1 (nilR w.rts.length)) (ATv w) (.sl (.fr [31]) 1 (nilR w.lks.length)) (.sl .nil 0 [])) (by simp only [go_sem]; rfl)]
  simp only [go_sem,tC,List.set_cons_succ,List.set_cons_zero,ATv]
 ·unfold E12
  have e3 : chunk false 1 w.lks.length (rowsN (fun j => idxK (onQ w j) w.pts.length) w.lks.length) = rowsN (fun j => idxK (onQ w j) w.pts.length) w.lks.length:= by
   have:= chunk_one (rowsN (fun j => idxK (onQ w j) w.pts.length) w.lks.length)
   rwa [rowsN_len] at this
  have e4 : chunk false 1 w.rts.length (rowsN (fun j => idxK (ofQ w j) w.pts.length) w.rts.length) = rowsN (fun j => idxK (ofQ w j) w.pts.length) w.rts.length:= by
   have:= chunk_one (rowsN (fun j => idxK (ofQ w j) w.pts.length) w.rts.length)
   rwa [rowsN_len] at this
  refine VS.trans (VS.freezeM (p:= .cell 33 7) rfl (by decide) rfl ⟨by rw [List.length_append,rowsT_len]; omega,hc1,.inr rfl⟩ (close_part _ _ _ _) (fun i e => by injection e with e; omega)) ?_
  rintro _ rfl
  rw [e3,mkE_forget]
  simp only [go_sem,kill_net,tC,hr2.kill,kill_rows]
  rw [set_cell (cs:= tC w .dead (.ml 908 0 w.rts.length cap2 false 1) (ATv w) (.sl (.fr [31]) 1 (nilR w.lks.length)) (.sl .nil 0 [])) (by simp only [go_sem]; rfl)]
  simp only [go_sem,tC,List.set_cons_succ,List.set_cons_zero]
  refine VS.trans (VS.freezeM (p:= .cell 33 8) rfl (by decide) rfl ⟨by rw [List.length_append,rowsT_len]; omega,hc2,.inr rfl⟩ (close_part _ _ _ _) (fun i e => by injection e with e; omega)) ?_
  rintro _ rfl
  rw [e4,mkE_forget]
  simp only [go_sem,kill_net,tC,ATv]
  rw [set_cell (cs:= tC w (ONv w) .dead (ATv w) (.sl (.fr [31]) 1 (nilR w.lks.length)) (.sl .nil 0 [])) (by simp only [go_sem]; rfl)]
  simp only [go_sem,tC,List.set_cons_succ,List.set_cons_zero]
  refine VS.mono (VS.tell (p:= .cell 33 11) (y:= .sl (.fr [120]) 1 []) rfl fun F v h => rep_nil_fr h) ?_
  rintro _ rfl
  rw [set_cell (cs:= tC w (ONv w) (OFv w) (ATv w) (.sl (.fr [31]) 1 (nilR w.lks.length)) (.sl .nil 0 [])) (by simp only [go_sem]; rfl)]
  simp only [go_sem,tC,List.set_cons_succ,List.set_cons_zero,ATv]
def mgs (w : NW) : List Nat:= w.mbs.map fun x => x.g
def sgs (w : NW) (i : Nat) : List Nat:= (w.scs.take i).map fun x => x.g
theorem fz18 (w : NW) (E : Env) (hE : F18 w E) : VS E fun E' => E' = mkE [(1,.lp 1 0),(5,.lp 33 0)] [(1,netV w),(33,tC w (ONv w) (OFv w) (ATv w) (MBv w) (.sl (.fr [140]) 1 ((mgs w).map avU)))]:= by
 rcases hE with ⟨h0,rfl⟩ | ⟨cap1,r1,hc1,hr1,rfl⟩
 ·have e1 : MBv w = .sl .none 1 (nilR w.lks.length):= by simp only [MBv,h0,List.length_nil,idxK_zero,rowsN_nil]
  have e2 : (mgs w).map avU = []:= by simp only [mgs,h0,List.map_nil]
  rw [e1,e2]
  refine VS.trans (VS.freeze (p:= .cell 33 10) rfl) ?_
  rintro _ rfl
  simp only [mkE_strip]
  simp only [go_sem,strip_net,tC,ONv,OFv,ATv]
  rw [set_cell (cs:= tC w (ONv w) (OFv w) (ATv w) (.sl .gone 1 (nilR w.lks.length)) (.sl (.fr [120]) 1 [])) (by simp only [go_sem]; rfl)]
  simp only [go_sem,tC,List.set_cons_succ,List.set_cons_zero]
  refine VS.mono (VS.relab [120] [140]) ?_
  rintro _ rfl
  simp only [mkE_relab]
  simp only [go_sem,relab_net,ONv,OFv,ATv]
 ·have e3 : chunk false 1 w.lks.length (rowsN (fun j => idxK (mbQ w j) w.mbs.length) w.lks.length) = rowsN (fun j => idxK (mbQ w j) w.mbs.length) w.lks.length:= by
   have:= chunk_one (rowsN (fun j => idxK (mbQ w j) w.mbs.length) w.lks.length)
   rwa [rowsN_len] at this
  refine VS.trans (VS.freezeM (p:= .cell 33 10) rfl (by decide) rfl ⟨by rw [List.length_append,rowsT_len]; omega,hc1,.inr rfl⟩ (close_part _ _ _ _) (fun i e => by injection e with e; omega)) ?_
  rintro _ rfl
  rw [e3,mkE_forget]
  simp only [go_sem,kill_net,tC,ONv,OFv,ATv]
  rw [set_cell (cs:= tC w (ONv w) (OFv w) (ATv w) .dead (.sl (.fr [120]) 1 ((mgs w).map avU))) (by simp only [go_sem]; rfl)]
  simp only [go_sem,tC,List.set_cons_succ,List.set_cons_zero]
  refine VS.mono (VS.relab [120] [140]) ?_
  rintro _ rfl
  simp only [mkE_relab]
  simp only [go_sem,relab_net,ONv,OFv,ATv,MBv]
def F23 (w : NW) (E : Env) : Prop:= E = mkE [(5,.lp 33 0)] [(1,netV w),(33,tC w (ONv w) (OFv w) (ATv w) (MBv w) (.sl (.fr [140]) 1 ((mgs w ++ sgs w w.scs.length).map avU)))]
def gsL (w : NW) : List Nat:= mgs w ++ w.scs.map fun x => x.g
theorem gsL_eq (w : NW) : mgs w ++ sgs w w.scs.length = gsL w:= by simp only [sgs,List.take_length,gsL]
def topoV (w : NW) : List AV:= tC w (ONv w) (OFv w) (.mp (keysP w w.pts.length) (valsP w.pts.length)) (MBv w) (.sl .none 1 ((rise (zs (gsL w))).map aI))
theorem C_New (w : NW) (h : w.OK) (hf : w.Fit) (hv : vNet w = none) : AC Tryz.prog f_q5 [.agg (netV w)] (.tup [.rp (topoV w),.lit .nilIface]):= by
 have hcV:= C_cValid w h (fun i hi => by rw [(vNet_ok hv 6 i (by decide) hi).2]; exact fun e => by cases e)
 rw [hv] at hcV
 have z1 : w.rts.length ≤ 16:= len_le hv 0 (by decide)
 have z2 : w.lks.length ≤ 24:= len_le hv 1 (by decide)
 have z3 : w.pts.length ≤ 64:= len_le hv 2 (by decide)
 have z6 : w.scs.length ≤ 8:= len_le hv 5 (by decide)
 have z7 : w.mbs.length ≤ 24:= len_le hv 6 (by decide)
 have y1 : ((w.rts.length : Int) ≤ 4294967296) = True:= eq_true (by omega)
 have y2 : ((w.lks.length : Int) ≤ 4294967296) = True:= eq_true (by omega)
 refine ac_q5 ?_ (Nat.le_add_left 1 _)
 simp only [go_sem,c_q5,low_net,one_net,len_net,take_net,Nat.le_refl]
 refine callX_of hcV ?_
 simp only [go_sem,amiss,low_net,one_net,len_net,take_net,Nat.le_refl]
 refine callX_of (C_cClone w hf) ?_
 have mk : ∀ d n : Nat,n ≤ 4294967296 → mkfV false 1 24 d [AV.sl .nil 0 []] (.lit (.int .i64 (n : Nat))) (.lit (.int .i64 (n : Nat))) = some (.sl (.fr [d]) 1 (List.replicate n (.sl .nil 0 []))):= fun d n hn => by
  rw [mkfV_n false 1 24 [AV.sl .nil 0 []] .i64 .i64 (n : Int) (by omega) (by omega) (by decide) rfl (.inr rfl) rfl,Int.toNat_natCast]
  rfl
 simp only [go_sem,netV,List.length_map,mk _ w.lks.length (by omega),mk _ w.rts.length (by omega)]
 refine cutS (F12 w) ?_ ?_
 ·by_cases h0 : w.pts = []
  ·refine shiftX_of (VS.adoptM (p:= .cell 33 9) (name:= [0]) rfl) ?_
   rintro _ rfl
   simp only [mkE_killn',mkE_strip]
   simp only [go_sem]
   rw [set_cell (cs:= tC w (.sl (.fr [22]) 1 (nilR w.lks.length)) (.sl (.fr [26]) 1 (nilR w.rts.length)) (.mf [27] false) (.sl (.fr [31]) 1 (nilR w.lks.length)) (.sl .nil 0 [])) (by simp only [go_sem]; rfl)]
   simp only [go_sem,tC,List.set_cons_succ,List.set_cons_zero,h0,List.map_nil,List.length_nil]
   refine aw_loop (fun m E => E = mkE [(1,.lp 1 0),(5,.lp 33 0),(35,.sl .none 3 []),(36,.lit (.int .i64 ((0 : Nat) : Int))),(37,.lit (.int .i64 0))] [(1,netV w),(33,tC w (.sl (.fr [22]) 1 (nilR w.lks.length)) (.sl (.fr [26]) 1 (nilR w.rts.length)) (.mu [0] [] []) (.sl (.fr [31]) 1 (nilR w.lks.length)) (.sl .nil 0 []))]) 0 ?_ ?_
   ·simp only [go_sem,netV,tC,h0,List.map_nil]
   ·rintro m _ rfl
    have f1 : ((0 : Int) < ((0 : Nat) : Int)) = False:= eq_false (by omega)
    simp only [go_sem,f1,decide_false]
    exact .inl ⟨h0,by simp only [E12,keysP,valsP,h0]; rfl⟩
  ·obtain ⟨x0,hx0⟩ : ∃ x,w.pts[0]? = some x:= by
    cases hp : w.pts with
    | nil => exact absurd hp h0
    | cons x l => exact ⟨x,rfl⟩
   obtain ⟨⟨r0,_,hr0⟩,⟨k0,_,hk0⟩,_,_⟩:= portOK hv hx0
   have e1 : nilR w.lks.length ≠ []:= nilR_ne (by omega)
   have e2 : nilR w.rts.length ≠ []:= nilR_ne (by omega)
   refine shiftX_of (S:= fun E' => ∃ cap1 cap2 r1 r2,w.lks.length ≤ cap1 ∧ w.rts.length ≤ cap2 ∧ DD r1 ∧ DD r2 ∧ E' = mkE [(1,.lp 1 0),(5,.lp 33 0)] [(1,netV w),(33,tC w (.ml 907 0 w.lks.length cap1 false 1) (.ml 908 0 w.rts.length cap2 false 1) (.mu [0] [] []) (.sl (.fr [31]) 1 (nilR w.lks.length)) (.sl .nil 0 [])),(907,nilR w.lks.length ++ r1),(908,nilR w.rts.length ++ r2)]) ?_ ?_
   ·refine VS.trans (VS.adoptM (p:= .cell 33 9) (name:= [0]) rfl) ?_
    rintro _ rfl
    simp only [mkE_killn',mkE_strip]
    simp only [go_sem]
    rw [set_cell (cs:= tC w (.sl (.fr [22]) 1 (nilR w.lks.length)) (.sl (.fr [26]) 1 (nilR w.rts.length)) (.mf [27] false) (.sl (.fr [31]) 1 (nilR w.lks.length)) (.sl .nil 0 [])) (by simp only [go_sem]; rfl)]
    simp only [go_sem,tC,List.set_cons_succ,List.set_cons_zero]
    refine VS.trans (VS.adopt (p:= .cell 33 7) (g:= false) 907 rfl e1 (nilR_row _) (by decide) rfl) ?_
    rintro _ ⟨cap1,j1,hc1,rfl⟩
    rw [nilR_cells]
    simp only [mkE_strip]
    simp only [go_sem]
    rw [set_cell (cs:= tC w (.sl .gone 1 (nilR w.lks.length)) (.sl (.fr [26]) 1 (nilR w.rts.length)) (.mu [0] [] []) (.sl (.fr [31]) 1 (nilR w.lks.length)) (.sl .nil 0 [])) (by simp only [go_sem]; rfl)]
    simp only [mkE_putc]
    simp only [go_sem,tC,List.set_cons_succ,List.set_cons_zero]
    refine VS.mono (VS.adopt (p:= .cell 33 8) (g:= false) 908 rfl e2 (nilR_row _) (by decide) rfl) ?_
    rintro _ ⟨cap2,j2,hc2,rfl⟩
    rw [nilR_cells]
    simp only [mkE_strip]
    simp only [go_sem,nilR_strip (DD.rep j1)]
    rw [set_cell (cs:= tC w (.ml 907 0 (nilR w.lks.length).length cap1 false 1) (.sl .gone 1 (nilR w.rts.length)) (.mu [0] [] []) (.sl (.fr [31]) 1 (nilR w.lks.length)) (.sl .nil 0 [])) (by simp only [go_sem]; rfl)]
    simp only [mkE_putc]
    simp only [go_sem,tC,List.set_cons_succ,List.set_cons_zero,nilR_len] at hc1 hc2 ⊢
    exact ⟨cap1,cap2,_,_,hc1,hc2,DD.rep j1,DD.rep j2,rfl⟩
   ·rintro _ ⟨cap1,cap2,r1,r2,hc1,hc2,hr1,hr2,rfl⟩
    simp only [go_sem,tC,netV,List.length_map]
    refine aw_loop (fun m E => ∃ i : Nat,i + m = w.pts.length ∧ E = mkE [(1,.lp 1 0),(5,.lp 33 0),(35,.sl .none 3 (w.pts.map avPort)),(36,.lit (.int .i64 (w.pts.length : Nat))),(37,.lit (.int .i64 (i : Nat)))] [(1,netV w),(33,tC w (.ml 907 0 w.lks.length cap1 false 1) (.ml 908 0 w.rts.length cap2 false 1) (.mu [0] (keysP w i) (valsP i)) (.sl (.fr [31]) 1 (nilR w.lks.length)) (.sl .nil 0 [])),(907,rowsT 58 (fun j => idxK (onQ w j) i) w.lks.length ++ r1),(908,rowsT 76 (fun j => idxK (ofQ w j) i) w.rts.length ++ r2)]) w.pts.length ?_ ?_
    ·refine ⟨0,by omega,?_⟩
     simp only [idxK_zero,rowsT_nil]
     simp only [go_sem,Int.natCast_zero]
     rfl
    ·rintro m _ ⟨i,hi,rfl⟩
     by_cases hil : i < w.pts.length
     ·have f1 : ((i : Int) < (w.pts.length : Int)) = True:= eq_true (by omega)
      obtain ⟨x,hx⟩ : ∃ x,w.pts[i]? = some x:= ⟨w.pts[i],List.getElem?_eq_getElem hil⟩
      obtain ⟨⟨r,hr,hrl⟩,⟨k,hk,hkl⟩,_,hone⟩:= portOK hv hx
      have hw:= wrap_succ i (by omega)
      have ld1 : ∀ (f : Nat → List Nat),aval.ld false 1 ((rowsT 58 f w.lks.length ++ r1).drop k) = some (slI [58,k] (f k)):= fun f => by
       rw [ld_drop,List.getElem?_append_left (by rw [rowsT_len]; exact hkl)]
       exact rowsT_get 58 f _ k hkl
      have ld2 : ∀ (f : Nat → List Nat),aval.ld false 1 ((rowsT 76 f w.rts.length ++ r2).drop r) = some (slI [76,r] (f r)):= fun f => by
       rw [ld_drop,List.getElem?_append_left (by rw [rowsT_len]; exact hrl)]
       exact rowsT_get 76 f _ r hrl
      have q1 : ((k : Int) < (w.lks.length : Int)) = True:= eq_true (by omega)
      have q2 : ((r : Int) < (w.rts.length : Int)) = True:= eq_true (by omega)
      simp only [go_sem,f1,decide_true,tC,hx,Int.toNat_natCast,Int.natCast_nonneg,List.getElem?_map,rowAgg,avPort,avU,hr,hk,q1,Nat.zero_add,Nat.mul_one,ld1]
      have hl1:= idxK_len (onQ w k) i
      have hl2:= idxK_len (ofQ w r) i
      have a1 : k + 1 ≤ (rowsT 58 (fun j => idxK (onQ w j) i) w.lks.length ++ r1).length:= by rw [List.length_append,rowsT_len]; omega
      have a2 : k + 1 ≤ (stripL [58,k] (rowsT 58 (fun j => idxK (onQ w j) i) w.lks.length) ++ r1).length:= by rw [List.length_append,stripL_map,List.length_map,rowsT_len]; omega
      have a3 : r + 1 ≤ (rowsT 76 (fun j => idxK (ofQ w j) i) w.rts.length ++ r2).length:= by rw [List.length_append,rowsT_len]; omega
      have a4 : r + 1 ≤ (stripL [76,r] (rowsT 76 (fun j => idxK (ofQ w j) i) w.rts.length) ++ r2).length:= by rw [List.length_append,stripL_map,List.length_map,rowsT_len]; omega
      have p1:= fun y => put_set (rowsT 58 (fun j => idxK (onQ w j) i) w.lks.length) r1 k y (by rw [rowsT_len]; exact hkl)
      have p2:= fun y => put_set (stripL [58,k] (rowsT 58 (fun j => idxK (onQ w j) i) w.lks.length)) r1 k y (by rw [stripL_map,List.length_map,rowsT_len]; exact hkl)
      have p3:= fun y => put_set (rowsT 76 (fun j => idxK (ofQ w j) i) w.rts.length) r2 r y (by rw [rowsT_len]; exact hrl)
      have p4:= fun y => put_set (stripL [76,r] (rowsT 76 (fun j => idxK (ofQ w j) i) w.rts.length)) r2 r y (by rw [stripL_map,List.length_map,rowsT_len]; exact hrl)
      refine cutR (mkE [(1,.lp 1 0),(5,.lp 33 0),(6,avI i),(7,.lp 7 0),(35,.sl .none 3 (w.pts.map avPort)),(36,.lit (.int .i64 (w.pts.length : Nat))),(37,avI i)] [(1,netV w),(7,[avI r,avI k,avU x.a]),(33,tC w (.ml 907 0 w.lks.length cap1 false 1) (.ml 908 0 w.rts.length cap2 false 1) (.mu [0] (keysP w i) (valsP i)) (.sl (.fr [31]) 1 (nilR w.lks.length)) (.sl .nil 0 [])),(907,(rowsT 58 (fun j => idxK (onQ w j) i) w.lks.length).set k (.sl (.own [58]) 1 ((idxK (onQ w k) i ++ [i]).map avI)) ++ r1),(908,rowsT 76 (fun j => idxK (ofQ w j) i) w.rts.length ++ r2)]) ?_ ?_
      ·by_cases hn : idxK (onQ w k) i = []
       ·have e1 : slI [58,k] (idxK (onQ w k) i) = .sl .nil 0 []:= by rw [slI,if_pos hn]
        rw [e1,avApp_nil 1 8 0 [] [] [AV.lit (.int .i64 (i : Nat))] _ (by simp) (by decide)]
        simp only [go_sem,q1,Int.toNat_natCast,Int.natCast_nonneg,Nat.zero_add,Nat.mul_one,a1,p1,hn,List.nil_append,List.map_cons,List.map_nil]
        rfl
       ·have e1 : slI [58,k] (idxK (onQ w k) i) = .sl (.own [58,k]) 1 ((idxK (onQ w k) i).map avI):= by rw [slI,if_neg hn]
        rw [e1,avApp_own 1 8 [] [58,k] _ [AV.lit (.int .i64 (i : Nat))] _ (by simp; omega) (by decide) rfl]
        simp only [go_sem,q1,Int.toNat_natCast,Int.natCast_nonneg,Nat.zero_add,Nat.mul_one,hr1.strip,hr2.strip,strip_rows [58,k] 76 _ _ (fun j => by simp),a2,p2,strip_set,List.map_append,List.map_cons,List.map_nil]
        rfl
      simp only [go_sem,tC,avI,avU,q2,Int.toNat_natCast,Int.natCast_nonneg,Nat.zero_add,Nat.mul_one,ld2]
      refine cutR (mkE [(1,.lp 1 0),(5,.lp 33 0),(6,avI i),(7,.lp 7 0),(35,.sl .none 3 (w.pts.map avPort)),(36,.lit (.int .i64 (w.pts.length : Nat))),(37,avI i)] [(1,netV w),(7,[avI r,avI k,avU x.a]),(33,tC w (.ml 907 0 w.lks.length cap1 false 1) (.ml 908 0 w.rts.length cap2 false 1) (.mu [0] (keysP w i) (valsP i)) (.sl (.fr [31]) 1 (nilR w.lks.length)) (.sl .nil 0 [])),(907,(rowsT 58 (fun j => idxK (onQ w j) i) w.lks.length).set k (.sl (.own [58]) 1 ((idxK (onQ w k) i ++ [i]).map avI)) ++ r1),(908,(rowsT 76 (fun j => idxK (ofQ w j) i) w.rts.length).set r (.sl (.own [76]) 1 ((idxK (ofQ w r) i ++ [i]).map avI)) ++ r2)]) ?_ ?_
      ·by_cases hn : idxK (ofQ w r) i = []
       ·have e1 : slI [76,r] (idxK (ofQ w r) i) = .sl .nil 0 []:= by rw [slI,if_pos hn]
        rw [e1,avApp_nil 1 8 0 [] [] [AV.lit (.int .i64 (i : Nat))] _ (by simp) (by decide)]
        simp only [go_sem,q2,Int.toNat_natCast,Int.natCast_nonneg,Nat.zero_add,Nat.mul_one,a3,p3,hn,List.nil_append,List.map_cons,List.map_nil]
        rfl
       ·have e1 : slI [76,r] (idxK (ofQ w r) i) = .sl (.own [76,r]) 1 ((idxK (ofQ w r) i).map avI):= by rw [slI,if_neg hn]
        rw [e1,avApp_own 1 8 [] [76,r] _ [AV.lit (.int .i64 (i : Nat))] _ (by simp; omega) (by decide) rfl]
        have sr:= strip_rows_set [76,r] 58 (fun j => idxK (onQ w j) i) w.lks.length k
        simp only [go_sem,q2,Int.toNat_natCast,Int.natCast_nonneg,Nat.zero_add,Nat.mul_one,hr1.strip,hr2.strip,sr _ (fun j => by simp) (by simp),a4,p4,strip_set,List.map_append,List.map_cons,List.map_nil]
        rfl
      have hd : ∀ (j : Nat) (y : NPt),j < i → w.pts[j]? = some y → y.a ≠ x.a:= fun j y hj hy e => by
       have:= hone j y hj hy
       simp [p_port_1,e] at this
      have hput:= put_keys hx hd
      simp only [go_sem,tC,avI,avU]
      rw [mupX_of (y:= avI i) rfl hput]
      simp only [go_sem,hr1.renew,hr2.renew,renew_rows_set,renew_net]
      have g1 : rowsT 58 (fun j => if j = k then idxK (onQ w k) i ++ [i] else idxK (onQ w j) i) w.lks.length = rowsT 58 (fun j => idxK (onQ w j) (i + 1)) w.lks.length:= rowsT_congr fun j _ => by
       by_cases hjk : j = k
       ·subst hjk
        simp [idxK_succ,onQ,hx,hk]
       ·have : (x.lk == (j : Int)) = false:= by simp [hk]; omega
        simp [idxK_succ,onQ,hx,hjk,this]
      have g2 : rowsT 76 (fun j => if j = r then idxK (ofQ w r) i ++ [i] else idxK (ofQ w j) i) w.rts.length = rowsT 76 (fun j => idxK (ofQ w j) (i + 1)) w.rts.length:= rowsT_congr fun j _ => by
       by_cases hjk : j = r
       ·subst hjk
        simp [idxK_succ,ofQ,hx,hr]
       ·have : (x.rt == (j : Int)) = false:= by simp [hr]; omega
        simp [idxK_succ,ofQ,hx,hjk,this]
      refine shiftX_of (S:= fun E' => E' = mkE [(1,.lp 1 0),(5,.lp 33 0),(35,.sl .none 3 (w.pts.map avPort)),(36,.lit (.int .i64 (w.pts.length : Nat))),(37,avI i)] [(1,netV w),(7,[avI r,avI k,avU x.a]),(33,tC w (.ml 907 0 w.lks.length cap1 false 1) (.ml 908 0 w.rts.length cap2 false 1) (.mu [0] (keysP w (i + 1)) (valsP (i + 1))) (.sl (.fr [31]) 1 (nilR w.lks.length)) (.sl .nil 0 [])),(907,rowsT 58 (fun j => idxK (onQ w j) (i + 1)) w.lks.length ++ r1),(908,rowsT 76 (fun j => idxK (ofQ w j) (i + 1)) w.rts.length ++ r2)]) ?_ ?_
      ·refine VS.trans (VS.relab [58] [58,k]) ?_
       rintro _ rfl
       have s1:= relab_set 58 (fun j => idxK (onQ w j) i) w.lks.length k (idxK (onQ w k) i ++ [i]) hkl (by simp)
       have s2:= relab_rows_set [58] [58,k] 76 (fun j => idxK (ofQ w j) i) w.rts.length r
       simp only [mkE_relab]
       simp only [go_sem,hr1.relab,hr2.relab,relab_net,s1,s2 _ (fun j => by simp) (by simp),g1]
       refine VS.mono (VS.relab [76] [76,r]) ?_
       rintro _ rfl
       have s3:= relab_set 76 (fun j => idxK (ofQ w j) i) w.rts.length r (idxK (ofQ w r) i ++ [i]) hrl (by simp)
       have s4:= relab_rows [76] [76,r] 58 (fun j => idxK (onQ w j) (i + 1)) w.lks.length
       simp only [mkE_relab]
       simp only [go_sem,hr1.relab,hr2.relab,relab_net,s3,s4 (fun j => by simp),g2]
       rfl
      ·rintro _ rfl
       simp only [go_sem,avI,avU,tC,hw,hr1.kill,hr2.kill,kill_rows,kill_net]
       exact ⟨m - 1,by omega,i + 1,by omega,rfl⟩
     ·have f1 : ((i : Int) < (w.pts.length : Int)) = False:= eq_false (by omega)
      obtain rfl : i = w.pts.length:= by omega
      simp only [go_sem,f1,decide_false]
      exact .inr ⟨cap1,cap2,r1,r2,hc1,hc2,hr1,hr2,rfl⟩
 ·intro E' hE'
  rw [aw_seq',aw_seq']
  refine cutA (F18 w) ?_ ?_
  ·by_cases h0 : w.mbs = []
   ·refine merge (F:= F12 w) (S:= fun E2 => E2 = mkE [(1,.lp 1 0),(5,.lp 33 0)] [(1,netV w),(33,tC w (ONv w) (OFv w) (ATv w) (.sl (.fr [31]) 1 (nilR w.lks.length)) (.sl (.fr [120]) 1 []))]) (fz12 w) ?_ E' hE'
    rintro _ rfl
    simp only [go_sem,tC,netV,h0,List.map_nil,List.length_nil]
    refine aw_loop (fun m E => E = mkE [(1,.lp 1 0),(5,.lp 33 0),(87,.sl .none 4 []),(88,.lit (.int .i64 ((0 : Nat) : Int))),(89,.lit (.int .i64 0))] [(1,netV w),(33,tC w (ONv w) (OFv w) (ATv w) (.sl (.fr [31]) 1 (nilR w.lks.length)) (.sl (.fr [120]) 1 []))]) 0 ?_ ?_
    ·simp only [go_sem,netV,tC,h0,List.map_nil]
    ·rintro m _ rfl
     have f1 : ((0 : Int) < ((0 : Nat) : Int)) = False:= eq_false (by omega)
     simp only [go_sem,f1,decide_false]
     exact .inl ⟨h0,rfl⟩
   ·obtain ⟨x0,hx0⟩ : ∃ x,w.mbs[0]? = some x:= by
     cases hp : w.mbs with
     | nil => exact absurd hp h0
     | cons x l => exact ⟨x,rfl⟩
    obtain ⟨⟨k0,_,hk0⟩,_⟩:= memOK hv hx0
    refine merge (F:= F12 w) (S:= fun E2 => ∃ cap r,w.lks.length ≤ cap ∧ DD r ∧ E2 = mkE [(1,.lp 1 0),(5,.lp 33 0)] [(1,netV w),(33,tC w (ONv w) (OFv w) (ATv w) (.ml 910 0 w.lks.length cap false 1) (.sl (.fr [120]) 1 [])),(910,nilR w.lks.length ++ r)]) (fun E hE => (fz12 w E hE).trans ?_) ?_ E' hE'
    ·rintro _ rfl
     refine VS.mono (VS.adopt (p:= .cell 33 10) (g:= false) 910 rfl (nilR_ne (by omega)) (nilR_row _) (by decide) rfl) ?_
     rintro _ ⟨cap,j,hc,rfl⟩
     rw [nilR_cells]
     simp only [mkE_strip]
     simp only [go_sem,strip_net,tC,ONv,OFv,ATv]
     rw [set_cell (cs:= tC w (ONv w) (OFv w) (ATv w) (.sl .gone 1 (nilR w.lks.length)) (.sl (.fr [120]) 1 [])) (by simp only [go_sem]; rfl)]
     simp only [mkE_putc]
     simp only [go_sem,tC,List.set_cons_succ,List.set_cons_zero,nilR_len] at hc ⊢
     exact ⟨cap,_,hc,DD.rep j,rfl⟩
    ·rintro _ ⟨cap,r1,hc,hr1,rfl⟩
     simp only [go_sem,tC,netV,List.length_map]
     refine aw_loop (fun m E => ∃ i : Nat,i + m = w.mbs.length ∧ E = mkE [(1,.lp 1 0),(5,.lp 33 0),(87,.sl .none 4 (w.mbs.map avMb)),(88,.lit (.int .i64 (w.mbs.length : Nat))),(89,.lit (.int .i64 (i : Nat)))] [(1,netV w),(33,tC w (ONv w) (OFv w) (ATv w) (.ml 910 0 w.lks.length cap false 1) (.sl (.fr [120]) 1 (((w.mbs.take i).map fun x => x.g).map avU))),(910,rowsT 110 (fun j => idxK (mbQ w j) i) w.lks.length ++ r1)]) w.mbs.length ?_ ?_
     ·refine ⟨0,by omega,?_⟩
      simp only [idxK_zero,rowsT_nil]
      simp only [go_sem,Int.natCast_zero]
      rfl
     ·rintro m _ ⟨i,hi,rfl⟩
      by_cases hil : i < w.mbs.length
      ·have f1 : ((i : Int) < (w.mbs.length : Int)) = True:= eq_true (by omega)
       obtain ⟨x,hx⟩ : ∃ x,w.mbs[i]? = some x:= ⟨w.mbs[i],List.getElem?_eq_getElem hil⟩
       obtain ⟨⟨k,hk,hkl⟩,_⟩:= memOK hv hx
       have hw:= wrap_succ i (by omega)
       have ld1 : ∀ (f : Nat → List Nat),aval.ld false 1 ((rowsT 110 f w.lks.length ++ r1).drop k) = some (slI [110,k] (f k)):= fun f => by
        rw [ld_drop,List.getElem?_append_left (by rw [rowsT_len]; exact hkl)]
        exact rowsT_get 110 f _ k hkl
       have q1 : ((k : Int) < (w.lks.length : Int)) = True:= eq_true (by omega)
       simp only [go_sem,f1,decide_true,tC,ONv,OFv,ATv,hx,Int.toNat_natCast,Int.natCast_nonneg,List.getElem?_map,rowAgg,avMb,avU,hk,q1,Nat.zero_add,Nat.mul_one,ld1]
       have hl1:= idxK_len (mbQ w k) i
       have a1 : k + 1 ≤ (rowsT 110 (fun j => idxK (mbQ w j) i) w.lks.length ++ r1).length:= by rw [List.length_append,rowsT_len]; omega
       have a2 : k + 1 ≤ (stripL [110,k] (rowsT 110 (fun j => idxK (mbQ w j) i) w.lks.length) ++ r1).length:= by rw [List.length_append,stripL_map,List.length_map,rowsT_len]; omega
       have p1:= fun y => put_set (rowsT 110 (fun j => idxK (mbQ w j) i) w.lks.length) r1 k y (by rw [rowsT_len]; exact hkl)
       have p2:= fun y => put_set (stripL [110,k] (rowsT 110 (fun j => idxK (mbQ w j) i) w.lks.length)) r1 k y (by rw [stripL_map,List.length_map,rowsT_len]; exact hkl)
       refine cutR (mkE [(1,.lp 1 0),(5,.lp 33 0),(9,.lp 9 0),(87,.sl .none 4 (w.mbs.map avMb)),(88,.lit (.int .i64 (w.mbs.length : Nat))),(89,avI i)] [(1,netV w),(9,[avI k,avU x.g,.lit (.bool x.only),.sl .none 1 (x.src.map avU)]),(33,tC w (ONv w) (OFv w) (ATv w) (.ml 910 0 w.lks.length cap false 1) (.sl (.fr [120]) 1 (((w.mbs.take i).map fun x => x.g).map avU))),(910,(rowsT 110 (fun j => idxK (mbQ w j) i) w.lks.length).set k (.sl (.own [110]) 1 ((idxK (mbQ w k) i ++ [i]).map avI)) ++ r1)]) ?_ ?_
       ·by_cases hn : idxK (mbQ w k) i = []
        ·have e1 : slI [110,k] (idxK (mbQ w k) i) = .sl .nil 0 []:= by rw [slI,if_pos hn]
         rw [e1,avApp_nil 1 8 0 [] [] [AV.lit (.int .i64 (i : Nat))] _ (by simp) (by decide)]
         simp only [go_sem,q1,Int.toNat_natCast,Int.natCast_nonneg,Nat.zero_add,Nat.mul_one,a1,p1,hn,List.nil_append,List.map_cons,List.map_nil]
         rfl
        ·have e1 : slI [110,k] (idxK (mbQ w k) i) = .sl (.own [110,k]) 1 ((idxK (mbQ w k) i).map avI):= by rw [slI,if_neg hn]
         rw [e1,avApp_own 1 8 [] [110,k] _ [AV.lit (.int .i64 (i : Nat))] _ (by simp; omega) (by decide) rfl]
         simp only [go_sem,q1,Int.toNat_natCast,Int.natCast_nonneg,Nat.zero_add,Nat.mul_one,hr1.strip,a2,p2,strip_set,List.map_append,List.map_cons,List.map_nil]
         rfl
       ·have eG : ∀ s c,avApp 1 4 [] 120 s c (.sl (.fr [120]) 1 (((w.mbs.take i).map fun x => x.g).map avU)) (.sl (.own [119]) 1 [.lit (.int .u32 (x.g : Nat))]) = _:= fun s c => avApp_fr 1 4 [] [120] _ [.lit (.int .u32 (x.g : Nat))] _ (by simp; omega) (by decide) rfl
        have gS : (((w.mbs.take i).map fun x => x.g).map avU) ++ [AV.lit (.int .u32 (x.g : Nat))] = (((w.mbs.take (i + 1)).map fun x => x.g).map avU):= by rw [take_succ_map _ hx,List.map_append]; rfl
        have sr:= strip_rows_set [120] 110 (fun j => idxK (mbQ w j) i) w.lks.length k
        simp only [go_sem,tC,ONv,OFv,ATv,avI,avU,eG,gS,strip_net,hr1.strip,sr _ (fun j => by simp) (by simp)]
        have g1 : rowsT 110 (fun j => if j = k then idxK (mbQ w k) i ++ [i] else idxK (mbQ w j) i) w.lks.length = rowsT 110 (fun j => idxK (mbQ w j) (i + 1)) w.lks.length:= rowsT_congr fun j _ => by
         by_cases hjk : j = k
         ·subst hjk
          simp [idxK_succ,mbQ,hx,hk]
         ·have : (x.lk == (j : Int)) = false:= by simp [hk]; omega
          simp [idxK_succ,mbQ,hx,hjk,this]
        refine shiftX_of (S:= fun E' => E' = mkE [(1,.lp 1 0),(5,.lp 33 0),(87,.sl .none 4 (w.mbs.map avMb)),(88,.lit (.int .i64 (w.mbs.length : Nat))),(89,avI i)] [(1,netV w),(9,[avI k,avU x.g,.lit (.bool x.only),.sl .none 1 (x.src.map avU)]),(33,tC w (ONv w) (OFv w) (ATv w) (.ml 910 0 w.lks.length cap false 1) (.sl (.fr [120]) 1 (((w.mbs.take (i + 1)).map fun x => x.g).map avU))),(910,rowsT 110 (fun j => idxK (mbQ w j) (i + 1)) w.lks.length ++ r1)]) ?_ ?_
        ·refine VS.mono (VS.relab [110] [110,k]) ?_
         rintro _ rfl
         have s1:= relab_set 110 (fun j => idxK (mbQ w j) i) w.lks.length k (idxK (mbQ w k) i ++ [i]) hkl (by simp)
         simp only [mkE_relab]
         simp only [go_sem,hr1.relab,relab_net,s1,g1]
         rfl
        ·rintro _ rfl
         simp only [go_sem,avI,avU,tC,ONv,OFv,ATv,hw,hr1.kill,kill_rows,kill_net]
         exact ⟨m - 1,by omega,i + 1,by omega,rfl⟩
      ·have f1 : ((i : Int) < (w.mbs.length : Int)) = False:= eq_false (by omega)
       obtain rfl : i = w.mbs.length:= by omega
       simp only [go_sem,f1,decide_false,List.take_length]
       exact .inr ⟨cap,r1,hc,hr1,rfl⟩
  ·intro E2 hE2
   rw [aw_seq',aw_seq']
   refine cutA (F23 w) ?_ ?_
   ·refine merge (F:= F18 w) (fz18 w) ?_ E2 hE2
    rintro _ rfl
    simp only [go_sem,tC,netV,List.length_map]
    refine aw_loop (fun m E => ∃ i : Nat,i + m = w.scs.length ∧ E = mkE [(5,.lp 33 0),(125,.sl .none 3 (w.scs.map avSource)),(126,.lit (.int .i64 (w.scs.length : Nat))),(127,.lit (.int .i64 (i : Nat)))] [(1,netV w),(33,tC w (ONv w) (OFv w) (ATv w) (MBv w) (.sl (.fr [140]) 1 ((mgs w ++ sgs w i).map avU)))]) w.scs.length ?_ ?_
    ·refine ⟨0,by omega,?_⟩
     simp only [go_sem,Int.natCast_zero,sgs,List.take_zero,List.map_nil,List.append_nil]
     rfl
    ·rintro m _ ⟨i,hi,rfl⟩
     by_cases hil : i < w.scs.length
     ·have f1 : ((i : Int) < (w.scs.length : Int)) = True:= eq_true (by omega)
      obtain ⟨x,hx⟩ : ∃ x,w.scs[i]? = some x:= ⟨w.scs[i],List.getElem?_eq_getElem hil⟩
      have hw:= wrap_succ i (by omega)
      have hml : (mgs w ++ sgs w i).length ≤ 100:= by simp [mgs,sgs]; omega
      have eG : ∀ s c,avApp 1 4 [] 140 s c (.sl (.fr [140]) 1 ((mgs w ++ sgs w i).map avU)) (.sl (.own [139]) 1 [.lit (.int .u32 (x.g : Nat))]) = _:= fun s c => avApp_fr 1 4 [] [140] _ [.lit (.int .u32 (x.g : Nat))] _ (by rw [List.length_map]; simp only [List.length_cons,List.length_nil]; omega) (by decide) rfl
      have gS : ((mgs w ++ sgs w i).map avU) ++ [AV.lit (.int .u32 (x.g : Nat))] = (mgs w ++ sgs w (i + 1)).map avU:= by rw [sgs,sgs,take_succ_map _ hx,← List.append_assoc,List.map_append (l₁:= mgs w ++ _)]; rfl
      simp only [go_sem,f1,decide_true,tC,ONv,OFv,ATv,MBv,hx,Int.toNat_natCast,Int.natCast_nonneg,List.getElem?_map,rowAgg,avSource,avU]
      simp only [go_sem,eG,gS,strip_net,hw,kill_net]
      exact ⟨m - 1,by omega,i + 1,by omega,rfl⟩
     ·have f1 : ((i : Int) < (w.scs.length : Int)) = False:= eq_false (by omega)
      obtain rfl : i = w.scs.length:= by omega
      simp only [go_sem,f1,decide_false]
      exact rfl
   ·rintro _ rfl
    rw [gsL_eq]
    have hgl : (gsL w).length ≤ 32:= by simp [gsL,mgs]; omega
    simp only [go_sem]
    by_cases h0 : gsL w = []
    ·refine shiftX_of (VS.tell (p:= .cell 33 11) (y:= .sl .none 1 []) (by rw [h0]; rfl) fun F v h => rep_sl0 h) ?_
     rintro _ rfl
     rw [set_cell (cs:= tC w (ONv w) (OFv w) (ATv w) (MBv w) (.sl (.fr [140]) 1 ((gsL w).map avU))) (by simp only [go_sem])]
     simp only [go_sem,tC,List.set_cons_succ,List.set_cons_zero,ONv,OFv,ATv,MBv]
     refine callX_of (C_Sort0 _ _) ?_
     simp only [go_sem]
     refine callX_of (C_Compact0 _) ?_
     simp only [go_sem]
     have e0 : (rise (zs [])).map aI = []:= by simp [rise,zs,dd]
     simp only [topoV,tC,h0,ONv,OFv,MBv,e0]
    ·have hz0 : zs (gsL w) ≠ []:= by simpa [zs] using h0
     have hzl : (zs (gsL w)).length = (gsL w).length:= by simp [zs]
     simp only [← zs_av]
     rw [← hzl] at hgl
     refine shiftX_of (VS.adopt (p:= .cell 33 11) (g:= false) 0 rfl (by simpa using hz0) (fun r hr => ?_) (by decide) rfl) ?_
     ·obtain ⟨n,_,rfl⟩:= List.mem_map.1 hr
      rfl
     rintro _ ⟨cap,j,hcap,rfl⟩
     rw [cells_ints]
     simp only [List.length_map] at hcap ⊢
     simp only [mkE_strip]
     simp only [go_sem,strip_net,tC,ONv,OFv,ATv,MBv]
     rw [set_cell (cs:= tC w (ONv w) (OFv w) (ATv w) (MBv w) (.sl .gone 1 ((zs (gsL w)).map aI))) (by simp only [go_sem]; rfl)]
     simp only [mkE_putc]
     simp only [go_sem,tC,List.set_cons_succ,List.set_cons_zero]
     have ht : Tl (List.replicate j .dead):= fun x hx => .inl (List.eq_of_mem_replicate hx)
     generalize List.replicate j AV.dead = tl at ht ⊢
     have hS:= C_SortL (cap:= cap) ht (show (zs (gsL w)).length ≤ 255 by omega)
     have hm : ((zs (gsL w)).mergeSort (fun x y => decide (x ≤ y))).length = (zs (gsL w)).length:= List.length_mergeSort _
     have hC:= C_Compact (d:= ((zs (gsL w)).mergeSort (fun x y => decide (x ≤ y))).toArray) (cap:= cap) ht (by simp [hm]; omega) (by simp [hm]; omega)
     rw [show dC ((zs (gsL w)).mergeSort (fun x y => decide (x ≤ y))).toArray tl = ((zs (gsL w)).mergeSort (fun x y => decide (x ≤ y))).map aI ++ tl by simp [dC]] at hC
     simp only [List.size_toArray,hm] at hC
     rw [show dd ((zs (gsL w)).mergeSort (fun x y => decide (x ≤ y))) = rise (zs (gsL w)) from rfl] at hC
     have hle : (rise (zs (gsL w))).length ≤ (zs (gsL w)).length:= by
      have:= dd_len ((zs (gsL w)).mergeSort (fun x y => decide (x ≤ y)))
      rw [List.length_mergeSort] at this
      exact this
     have hT : topoV w = tC w (ONv w) (OFv w) (.mp (keysP w w.pts.length) (valsP w.pts.length)) (MBv w) (.sl .none 1 ((rise (zs (gsL w))).map aI)):= rfl
     rw [hT]
     generalize (zs (gsL w)).mergeSort (fun x y => decide (x ≤ y)) = l' at hS hC
     generalize rise (zs (gsL w)) = r at hC hle ⊢
     generalize zs (gsL w) = z at hS hC hle hcap ⊢
     refine call0c_of ht rfl hS ?_
     simp only [go_sem]
     refine call0c_of ht rfl hC ?_
     simp only [go_sem,ONv,OFv,MBv]
     have hret : ∀ C,retM C 6 0 r.length cap false 1 (some (r.map aI ++ (List.replicate (z.length - r.length) (aI 0) ++ tl))) = some (.sl .none 1 (r.map aI)):= by
      intro C
      rw [retM_some (l:= r.map aI) 0 r.length cap false 1 _ (show 0 + r.length * 1 ≤ (r.map aI ++ (List.replicate (z.length - r.length) (aI 0) ++ tl)).length ∧ r.length ≤ cap ∧ (false = true ∨ (1 : Nat) = 1) from ⟨by simp,by omega,.inr rfl⟩) ?_,chunk_ints]
      rw [List.drop_zero,Nat.mul_one,List.take_append_of_le_length (by simp),List.take_of_length_le (by simp)]
      refine mapO_id fun x hx => ?_
      obtain ⟨n,_,rfl⟩:= List.mem_map.1 hx
      rfl
     simp only [hret]
     simp only [go_sem,ATv,tC]
end Go.Proofs.YtjceingdmfogeaaGreatDoor.VL
end

section
set_option maxHeartbeats 4000000
namespace Go.Proofs.YtjceingdmfogeaaGreatDoor.VL
open Go.RowKit Go.Proofs
def atF (f : Nat → List Nat) (n : Nat) (i : Int) : List Nat:= if 0 ≤ i ∧ i < (n : Int) then f i.toNat else []
theorem rowsN_get (f : Nat → List Nat) (n j : Nat) (h : j < n) : (rowsN f n)[j]? = some (if f j = [] then .sl .nil 0 [] else .sl .none 1 ((f j).map avI)):= by simp [rowsN,h]
theorem C_list (f : Nat → List Nat) (n : Nat) (i : Int) (hn : n ≤ 4294967296) (hf : ∀ j,(f j).length ≤ 4294967296) : AC Tryz.prog f_q52 [.sl .none 1 (rowsN f n),.lit (.int .i64 i)] (.sl .none 1 ((atF f n i).map avI)):= by
 by_cases h0 : i < 0
 ·have e : atF f n i = []:= if_neg (by omega)
  rw [e]
  refine AC_weak (r:= .sl .nil 0 []) (ac_q52 ?_ (Nat.le_add_left 2 _)) (fun E v h => rep_sl0 h)
  simp only [go_sem,c_q52,h0,decide_true]
 by_cases h1 : (n : Int) ≤ i
 ·have e : atF f n i = []:= if_neg (by omega)
  rw [e]
  refine AC_weak (r:= .sl .nil 0 []) (ac_q52 ?_ (Nat.le_add_left 2 _)) (fun E v h => rep_sl0 h)
  simp only [go_sem,c_q52,h0,h1,rowsN_len,decide_true,decide_false]
 obtain ⟨j,rfl⟩ : ∃ j : Nat,i = (j : Int):= ⟨i.toNat,by omega⟩
 have e : atF f n j = f j:= by simp only [atF]; rw [if_pos (by omega)]; simp
 have hg:= rowsN_get f n j (by omega)
 rw [e]
 refine ac_q52 ?_ (Nat.le_add_left 2 _)
 by_cases hj : f j = []
 ·rw [if_pos hj] at hg
  have hr:= fun e => avRow_some 1 .none (AV.sl .nil e []) rfl
  simp only [go_sem,c_q52,h0,h1,rowsN_len,decide_false,hg,hr,Int.natCast_nonneg,Int.toNat_natCast]
  refine callX_of (K0_Int _ _) ?_
  simp only [go_sem,hj,List.map_nil]
 ·rw [if_neg hj] at hg
  have hr:= fun e rows => avRow_some 1 .none (AV.sl .none e rows) rfl
  simp only [go_sem,c_q52,h0,h1,rowsN_len,decide_false,hg,hr,Int.natCast_nonneg,Int.toNat_natCast]
  refine callX_of (K_Int _ (by simpa using hf j)) ?_
  simp only [go_sem]
def onW (w : NW) (i : Int) : List Nat:= atF (fun j => idxK (onQ w j) w.pts.length) w.lks.length i
def ofW (w : NW) (i : Int) : List Nat:= atF (fun j => idxK (ofQ w j) w.pts.length) w.rts.length i
section
variable (w : NW) (hf : w.Fit)
include hf
theorem C_OfT (i : Int) : AC Tryz.prog f_q23 [.rp (topoV w),.lit (.int .i64 i)] (.sl .none 1 ((ofW w i).map avI)):= by
 refine ac_q23 ?_ (Nat.le_add_left 2 _)
 simp only [go_sem,c_q23,topoV,tC,OFv]
 refine callX_of (C_list _ _ i hf.l1 fun j => Nat.le_trans (idxK_len _ _) hf.l3) ?_
 simp only [go_sem,ofW]
end
theorem C_Raw (w : NW) : AC Tryz.prog f_q22 [.rp (topoV w)] (.rp (netV w)):= by
 refine ac_q22 ?_ (Nat.le_add_left 1 _)
 simp only [go_sem,c_q22,topoV,tC,netV]
def atP (w : NW) (a : Nat) : Option Nat:= w.pts.findIdx? fun p => p.a == a
theorem keyAt_find (a : Nat) : ∀ (l : List NPt) (i : Nat),keyAt false (.int .u32 (a : Nat)) (l.map fun p => Value.int .u32 (p.a : Nat)) i = some ((l.findIdx? fun p => p.a == a).map (· + i))
 | [],i => rfl
 | x :: l,i => by
  have ih:= keyAt_find a l (i + 1)
  have e : ((a : Int) == (x.a : Int)) = (x.a == a):= by rw [nat_beqb,Bool.eq_iff_iff]; simp only [beq_iff_eq]; exact eq_comm
  simp only [List.map_cons,keyAt,keyEq,if_true,e,List.findIdx?_cons]
  cases hx : x.a == a
  ·simp only [ih,Bool.false_eq_true,if_false,Option.map_map]
   congr 2
   funext j
   simp only [Function.comp]
   omega
  ·simp
theorem valsP_get (n i : Nat) (h : i < n) : (valsP n)[i]? = some (avI i):= by simp [valsP,h]
theorem atP_lt {w : NW} {a i : Nat} (h : atP w a = some i) : ∃ p,w.pts[i]? = some p ∧ p.a = a:= by
 obtain ⟨hi,hp,_⟩:= List.findIdx?_eq_some_iff_getElem.1 h
 exact ⟨w.pts[i],List.getElem?_eq_getElem hi,by simpa using hp⟩
theorem C_At (w : NW) (a : Nat) : AC Tryz.prog f_q31 [.rp (topoV w),avU a] (.tup [avI ((atP w a).getD 0),.lit (.bool (atP w a).isSome)]):= by
 have hk : keyAt false (.int .u32 (a : Nat)) (keysP w w.pts.length) 0 = some (atP w a):= by
  have:= keyAt_find a w.pts 0
  simp only [Nat.add_zero] at this
  rw [keysP,List.take_length,this]
  unfold atP
  cases List.findIdx? (fun p => p.a == a) w.pts <;> rfl
 refine ac_q31 ?_ (Nat.le_add_left 2 _)
 cases hp : atP w a with
 | none =>
  rw [hp] at hk
  simp only [go_sem,c_q31,topoV,tC,avU,mapGet,hk]
  rfl
 | some i =>
  rw [hp] at hk
  obtain ⟨p,hx,_⟩:= atP_lt hp
  have hv:= valsP_get w.pts.length i (List.getElem?_eq_some_iff.1 hx).1
  simp only [go_sem,c_q31,topoV,tC,avU,mapGet,hk,hv]
  rfl
end Go.Proofs.YtjceingdmfogeaaGreatDoor.VL
end

section
set_option maxHeartbeats 4000000
namespace Go.Proofs.YtjceingdmfogeaaGreatDoor.VL
open Go.RowKit Go.Proofs
def Wk (x y : AV) : Prop:= ∀ E v,Rep E x v → Rep E y v
def WkL : List AV → List AV → Prop
 | [],[] => True
 | x :: xs,y :: ys => Wk x y ∧ WkL xs ys
 | _,_ => False
theorem Wk.rfl (x : AV) : Wk x x:= fun _ _ h => h
theorem wk_nil (e e' : Nat) : Wk (.sl .nil e []) (.sl .none e' []):= fun E v h => rep_sl0 h
theorem wkL_rep : ∀ {xs ys : List AV},WkL xs ys → ∀ {E : RE} {vs : List Value},RepL E xs vs → RepL E ys vs
 | [],[],_,E,vs,h => h
 | x :: xs,y :: ys,hw,E,vs,h => by
  simp only [RepL] at h ⊢
  obtain ⟨v,ws,e,h1,h2⟩:= h
  exact ⟨v,ws,e,hw.1 E v h1,wkL_rep hw.2 h2⟩
 | [],_ :: _,hw,_,_,_ => hw.elim
 | _ :: _,[],hw,_,_,_ => hw.elim
theorem wk_agg {xs ys : List AV} (h : WkL xs ys) : Wk (.agg xs) (.agg ys):= fun E v hr => by
 simp only [Rep] at hr ⊢
 obtain ⟨vs,e,hr⟩:= hr
 exact ⟨vs,e,wkL_rep h hr⟩
theorem AC.wk {P : Program} {f : FuncId} {xs ys : List AV} {r : AV} (h : AC P f ys r) (hw : WkL xs ys) : AC P f xs r:= h.conv fun E vs hr => wkL_rep hw hr
theorem vfit {w : NW} (hv : vNet w = none) : w.Fit:= by
 have z1 : w.rts.length ≤ 16:= len_le hv 0 (by decide)
 have z2 : w.lks.length ≤ 24:= len_le hv 1 (by decide)
 have z3 : w.pts.length ≤ 64:= len_le hv 2 (by decide)
 have z4 : w.ros.length ≤ 96:= len_le hv 3 (by decide)
 have z5 : w.rgs.length ≤ 8:= len_le hv 4 (by decide)
 have z6 : w.scs.length ≤ 8:= len_le hv 5 (by decide)
 have z7 : w.mbs.length ≤ 24:= len_le hv 6 (by decide)
 refine ⟨by omega,by omega,by omega,by omega,by omega,by omega,by omega,fun x hx => ?_⟩
 obtain ⟨i,hi⟩:= List.getElem?_of_mem hx
 have:= (memOK hv hi).few
 omega
def w0 : NW:= ⟨[],[],[],[],[],[],[]⟩
def nils : List AV:= [.sl .nil 0 [],.sl .nil 0 [],.sl .nil 0 [],.sl .nil 0 [],.sl .nil 0 [],.sl .nil 0 [],.sl .nil 0 []]
end Go.Proofs.YtjceingdmfogeaaGreatDoor.VL
end

section
set_option maxHeartbeats 4000000
namespace Go.Proofs.YtjceingdmfogeaaGreatDoor.VL
open Go.RowKit Go.Proofs
theorem mem_idx {q : Nat → Bool} {k i : Nat} : i ∈ idxK q k ↔ i < k ∧ q i = true:= by simp [idxK]
theorem any_take_succ {α : Type} (p : α → Bool) {l : List α} {i : Nat} {x : α} (hx : l[i]? = some x) : (l.take (i + 1)).any p = ((l.take i).any p || p x):= by
 rw [List.take_add_one,hx]
 simp
theorem set_slot {s : List (Nat × AV)} {c : List (Nat × List AV)} {k : Nat} {x : AV} : (mkE s c).set (.slot k) x = mkE (putA s k x) c:= mkE_put s c k x
theorem map_avI (l : List Nat) : l.map avI = (l.map fun n : Nat => (n : Int)).map iI:= by
 rw [List.map_map]
 rfl
end Go.Proofs.YtjceingdmfogeaaGreatDoor.VL
end

section
set_option maxHeartbeats 4000000
namespace Go.Proofs.YtjceingdmfogeaaGreatDoor.VL
open Go.RowKit Go.Proofs
structure RouteOK (w : NW) (x : NRo) : Prop where
 ok : validN x.a x.b = true
 c0 : 0 ≤ x.cost
 c1 : x.cost ≤ 65535
 via : x.via ≠ 0
theorem routeOK {w : NW} (hv : vNet w = none) {i : Nat} {x : NRo} (hx : w.ros[i]? = some x) : RouteOK w x:= by
 have hi : i < w.ros.length:= (List.getElem?_eq_some_iff.1 hx).1
 have h:= (vNet_ok hv 3 i (by decide) hi).2
 simp only [vAt,hx,Option.bind_some,roOf] at h
 obtain ⟨_,h⟩:= ite_none h
 obtain ⟨h2,h⟩:= ite_none h
 obtain ⟨h3,_⟩:= ite_none h
 simp only [Bool.not_eq_false,Bool.and_eq_true,costN,decide_eq_true_eq] at h2
 simp only [Bool.not_eq_false,hostN,Bool.and_eq_true,Bool.not_eq_true',beq_eq_false_iff_ne,ne_eq] at h3
 exact ⟨h2.1,h2.2.1,h2.2.2,h3.1⟩
def pfxW (w : NW) (p : Nat) : NLk:= match w.pts[p]? with
 | some x => (match w.lks[x.lk.toNat]? with | some k => k | none => ⟨.empty,0,0⟩)
 | none => ⟨.empty,0,0⟩
def conStep (w : NW) (a : Nat) (s : Int × Int) (p : Nat) : Int × Int:= if (inN (pfxW w p).a (pfxW w p).b a && decide (s.2 < (pfxW w p).b)) = true then ((p : Int),(pfxW w p).b) else s
def conS (w : NW) (a : Nat) (l : List Nat) (i : Nat) : Int × Int:= (l.take i).foldl (conStep w a) (-1,-1)
theorem conS_succ {w : NW} {a : Nat} {l : List Nat} {i p : Nat} (hp : l[i]? = some p) : conS w a l (i + 1) = conStep w a (conS w a l i) p:= by
 rw [conS,List.take_add_one,hp,Option.toList_some,List.foldl_append]
 rfl
def conW (w : NW) (r : Int) (a : Nat) : Int:= (conS w a (ofW w r) (ofW w r).length).1
theorem conS_ok (w : NW) (a : Nat) (l : List Nat) : ∀ i,i ≤ l.length → conS w a l i = (-1,-1) ∨ ∃ p : Nat,p ∈ l ∧ conS w a l i = ((p : Int),(pfxW w p).b) ∧ 0 ≤ (pfxW w p).b
 | 0,_ => .inl rfl
 | i + 1,h => by
  obtain ⟨p,hp⟩ : ∃ p,l[i]? = some p:= ⟨l[i],List.getElem?_eq_getElem (by omega)⟩
  rw [conS_succ hp,conStep]
  by_cases hc : (inN (pfxW w p).a (pfxW w p).b a && decide ((conS w a l i).2 < (pfxW w p).b)) = true
  ·rw [if_pos hc]
   simp only [Bool.and_eq_true,inN] at hc
   exact .inr ⟨p,List.mem_of_getElem? hp,rfl,(validN_bounds hc.1.1).1⟩
  ·rw [if_neg hc]
   exact conS_ok w a l i (by omega)
def rouStep (w : NW) (r : Int) (a : Nat) (s : Int × List Nat) (i : Nat) : Int × List Nat:= match w.ros[i]? with
 | some x => if (!(x.rt == r) || (decide (x.b < s.1) || !inN x.a x.b a)) = true then s else if s.1 < x.b then (x.b,[i]) else (s.1,s.2 ++ [i])
 | none => s
def rouS (w : NW) (r : Int) (a : Nat) (k : Nat) : Int × List Nat:= (List.range k).foldl (rouStep w r a) (-1,[])
theorem rouS_succ (w : NW) (r : Int) (a k : Nat) : rouS w r a (k + 1) = rouStep w r a (rouS w r a k) k:= by
 rw [rouS,List.range_succ,List.foldl_append]
 rfl
def rouW (w : NW) (r : Int) (a : Nat) : List Nat:= (rouS w r a w.ros.length).2
theorem rouS_ok (w : NW) (r : Int) (a : Nat) : ∀ k,k ≤ w.ros.length → (∀ i ∈ (rouS w r a k).2,i < k ∧ ∃ x,w.ros[i]? = some x ∧ x.b = (rouS w r a k).1 ∧ x.rt = r) ∧ ((rouS w r a k).2.length ≤ k)
 | 0,_ => ⟨fun i hi => (by cases hi),Nat.le_refl _⟩
 | k + 1,h => by
  obtain ⟨ih,ihl⟩:= rouS_ok w r a k (by omega)
  obtain ⟨x,hx⟩ : ∃ x,w.ros[k]? = some x:= ⟨w.ros[k],List.getElem?_eq_getElem (by omega)⟩
  rw [rouS_succ,rouStep,hx]
  simp only
  split
  ·exact ⟨fun i hi => by obtain ⟨h1,h2⟩:= ih i hi; exact ⟨by omega,h2⟩,by omega⟩
  ·rename_i hc
   simp only [Bool.or_eq_true,Bool.not_eq_true',beq_eq_false_iff_ne,ne_eq,decide_eq_true_eq,not_or,Classical.not_not] at hc
   split
   ·refine ⟨fun i hi => ?_,by simp⟩
    obtain rfl : i = k:= by simpa using hi
    exact ⟨by omega,x,hx,rfl,hc.1⟩
   ·rename_i hlt
    refine ⟨fun i hi => ?_,by simp; omega⟩
    rcases List.mem_append.1 hi with hi | hi
    ·obtain ⟨h1,h2⟩:= ih i hi
     exact ⟨by omega,h2⟩
    ·obtain rfl : i = k:= by simpa using hi
     exact ⟨by omega,x,hx,by omega,hc.1⟩
theorem rouW_mem {w : NW} {r : Int} {a i : Nat} (h : i ∈ rouW w r a) : ∃ x,w.ros[i]? = some x:= by
 obtain ⟨_,x,hx,_⟩:= (rouS_ok w r a _ (Nat.le_refl _)).1 i h
 exact ⟨x,hx⟩
theorem rouW_len (w : NW) (r : Int) (a : Nat) : (rouW w r a).length ≤ w.ros.length:= (rouS_ok w r a _ (Nat.le_refl _)).2
def roAt (w : NW) (i : Nat) : NRo:= (w.ros[i]?).getD ⟨0,0,0,0,0⟩
def bestStep (w : NW) (b i : Nat) : Nat:= if (roAt w i).cost < (roAt w b).cost then i else b
def bestR (w : NW) : List Nat → Nat → Nat
 | [],b => b
 | i :: l,b => bestR w l (bestStep w b i)
def atW (w : NW) (r : Int) (a : Nat) : Bool:= decide (0 ≤ conW w r a) && match rouW w r a with
 | [] => true
 | i :: _ => decide ((roAt w i).b ≤ (pfxW w (conW w r a).toNat).b)
def lookN (w : NW) (r : Int) : Nat → Nat → Option (Nat × Nat × Int)
 | n,a => if atW w r a = true then some ((conW w r a).toNat,0,0) else match rouW w r a with
  | [] => none
  | i :: l => match n with
   | 0 => none
   | n + 1 => match lookN w r n (roAt w (bestR w l i)).via with
    | none => none
    | some (p,v,c) => some (p,if v = 0 then (roAt w (bestR w l i)).via else v,if c + (roAt w (bestR w l i)).cost ≤ 65535 then c + (roAt w (bestR w l i)).cost else 65535)
theorem bestR_mem (w : NW) : ∀ (l : List Nat) (b : Nat),bestR w l b = b ∨ bestR w l b ∈ l
 | [],b => .inl rfl
 | i :: l,b => by
  simp only [bestR,bestStep]
  split
  ·rcases bestR_mem w l i with h | h
   ·rw [h]; exact .inr (by simp)
   ·exact .inr (by simp [h])
  ·rcases bestR_mem w l b with h | h
   ·exact .inl h
   ·exact .inr (by simp [h])
theorem best_ok {w : NW} (hv : vNet w = none) {r : Int} {a i : Nat} {l : List Nat} (h : rouW w r a = i :: l) : RouteOK w (roAt w (bestR w l i)):= by
 have hm : bestR w l i ∈ rouW w r a:= by
  rw [h]
  rcases bestR_mem w l i with h | h
  ·rw [h]; simp
  ·simp [h]
 obtain ⟨x,hx⟩:= rouW_mem hm
 have:= routeOK hv hx
 simpa [roAt,hx] using this
theorem lookN_cost {w : NW} (hv : vNet w = none) (r : Int) : ∀ (n a p v : Nat) (c : Int),lookN w r n a = some (p,v,c) → 0 ≤ c ∧ c ≤ 65535
 | n,a,p,v,c,h => by
  rw [lookN.eq_def] at h
  simp only at h
  split at h
  ·injection h with h
   have:= congrArg (fun q => q.2.2) h
   simp only at this
   omega
  ·split at h
   ·cases h
   ·rename_i i l hr
    cases n with
    | zero => cases h
    | succ n =>
     simp only at h
     have hb:= best_ok hv hr
     split at h
     ·cases h
     ·rename_i p' v' c' h'
      have ih:= lookN_cost hv r n _ p' v' c' h'
      injection h with h
      have:= congrArg (fun q => q.2.2) h
      simp only at this
      have h1:= hb.c0
      split at this <;> omega
end Go.Proofs.YtjceingdmfogeaaGreatDoor.VL
end

