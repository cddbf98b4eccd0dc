import Derived.Sort.Walk13a
import Derived.Test.YtjceingdmfogeaaGreatDoorGa10
set_option linter.unusedVariables false
set_option linter.unusedSimpArgs false
section
set_option maxHeartbeats 4000000
namespace Go.Proofs.YtjceingdmfogeaaGreatDoor.VL
open Go.RowKit Go.Proofs Go.Sort
theorem aw_mono {P : Program} (c : ACode) {E : Env} {Q Q' : AExit → Env → Prop} (hk : ∀ ex E,Q ex E → Q' ex E) (h : aw P c E Q) : aw P c E Q':= AM_mk.aw_mono c h hk
theorem aw_loopE {P : Program} {a : ACode} {kl dl : List Nat} {E : Env} {Q : AExit → Env → Prop} (I : Nat → Env → Prop) (n : Nat) (i : Nat) (F : Env) (h0 : I n ((E.dropS kl).freshL dl))
  (h : ∀ m E',I m E' → aw P a E' (thenQ (fun E'' => ∃ k,k < m ∧ I k ((E''.dropS kl).freshL dl)) (fun ex E'' => ex = .exit i ∧ E'' = F))) (hF : Q (.exit i) F) : aw P (.loop a kl dl) E Q :=
 aw_mono _ (Q:= fun ex E'' => ex = .exit i ∧ E'' = F) (fun ex E'' h => by obtain ⟨rfl,rfl⟩:= h; exact hF) (aw_loop I n h0 h)
theorem scanUp_t {p : Int → Bool} {d : Array Int} {j i : Nat} (h : i ≤ j) (hp : p d[i]! = true) : scanUp p d j i = scanUp p d j (i + 1):= by
 rw [scanUp,if_pos (by simp [h,hp])]
theorem scanUp_f {p : Int → Bool} {d : Array Int} {j i : Nat} (h : i ≤ j → p d[i]! = false) : scanUp p d j i = i:= by
 rw [scanUp,if_neg]
 simp only [Bool.and_eq_true,decide_eq_true_eq,not_and,Bool.not_eq_true]
 exact h
theorem scanDown_t {p : Int → Bool} {d : Array Int} {j i : Nat} (h0 : 1 ≤ j) (h : i ≤ j) (hp : p d[j]! = true) : scanDown p d i j = scanDown p d i (j - 1):= by
 obtain ⟨k,rfl⟩ : ∃ k,j = k + 1:= ⟨j - 1,by omega⟩
 rw [scanDown,if_pos (by simp [h,hp])]
 rfl
theorem scanDown_f {p : Int → Bool} {d : Array Int} {j i : Nat} (h : i ≤ j → p d[j]! = false) : scanDown p d i j = j:= by
 cases j with
 | zero => rfl
 | succ k =>
  rw [scanDown,if_neg]
  simp only [Bool.and_eq_true,decide_eq_true_eq,not_and,Bool.not_eq_true]
  exact h
theorem scanUp_le {p : Int → Bool} {d : Array Int} {j i n : Nat} (h1 : i ≤ n) (h2 : j + 1 ≤ n) : scanUp p d j i ≤ n:= by
 by_cases h : i ≤ j + 1
 ·have:= (scanUp_spec p d j _ i rfl).2.1 h
  omega
 ·rw [scanUp_f (by omega)]
  exact h1
theorem C_partitionEqual {d : Array Int} {a b p cap : Nat} {tl : List AV} (ht : Tl tl) (hp1 : a ≤ p) (hp2 : p < b) (hab : a + 1 < b) (hb : b ≤ d.size) (hd : d.size ≤ 255) :
  AM Tryz.prog f_q91 [dS d.size cap,iI a,iI b,iI p] [(100000,dC d tl)] (iI (partitionEqual ltInt d a b p).1) [(100000,dC (partitionEqual ltInt d a b p).2 tl)]:= by
 refine am_q91 ?_ (by simp) (Nat.le_add_left 4 _)
 have bA : (a : Int) < (d.size : Int):= by omega
 have bP : (p : Int) < (d.size : Int):= by omega
 obtain ⟨g3,g4,l1,s1,l2,s2⟩:= swp_cells (x:= d) tl (show a < d.size by omega) (show p < d.size by omega)
 rw [partitionEqual]
 simp only [go_sem,env0M_mk,c_q91,List.map_cons,List.map_nil,bA,bP,g3,g4,l1,s1,l2,s2,Int.natCast_nonneg,Int.toNat_natCast,Nat.zero_add,Nat.mul_one,swp_def,
  iwn (a + 1) (by omega : (a : Int) + 1 = ((a + 1 : Nat) : Int)) (by omega),iwn (b - 1) (by omega : (b : Int) - 1 = ((b - 1 : Nat) : Int)) (by omega)]
 refine aw_loop (fun m E => ∃ (i j : Nat) (x : Array Int),x.size = d.size ∧ a < i ∧ i ≤ b ∧ j < b ∧ j + 1 - i ≤ m ∧ partEqLoop ltInt a i j x = partEqLoop ltInt a (a + 1) (b - 1) (swp d a p) ∧
  E = mkE [(0,dS d.size cap),(1,iI a),(9,iI i),(10,iI j)] [(100000,dC x tl)]) (b - 1 + 1 - (a + 1)) ?_ ?_
 ·exact ⟨a + 1,b - 1,swp d a p,swp_size _ _ _,by omega,by omega,by omega,Nat.le_refl _,rfl,by simp only [go_sem]⟩
 ·rintro m _ ⟨i,j,x,hx,hai,hib,hjb,hm,hr,rfl⟩
  have gA:= dC_ld tl (show a < x.size by omega)
  rw [partEqLoop_eq] at hr
  have hI1:= scanUp_ge (fun y => !ltInt x[a]! y) x j i
  have hI2:= scanUp_le (p:= fun y => !ltInt x[a]! y) (d:= x) (j:= j) hib (show j + 1 ≤ b by omega)
  generalize hI : scanUp (fun y => !ltInt x[a]! y) x j i = I at hr hI1 hI2
  have hJ1:= scanDown_le (fun y => ltInt x[a]! y) x I j
  generalize hJ : scanDown (fun y => ltInt x[a]! y) x I j = J at hr hJ1
  simp only [go_sem]
  refine aw_loopE (fun m' E => ∃ (k : Nat),a < k ∧ j + 1 - k ≤ m' ∧ k ≤ b ∧ scanUp (fun y => !ltInt x[a]! y) x j k = I ∧ E = mkE [(0,dS d.size cap),(1,iI a),(9,iI k),(10,iI j)] [(100000,dC x tl)]) (j + 1 - i) 2
   (mkE [(0,dS d.size cap),(1,iI a),(9,iI I),(10,iI j),(43,.lit (.bool false))] [(100000,dC x tl)]) ?_ ?_ ?_
  ·exact ⟨i,hai,Nat.le_refl _,hib,hI,by simp only [go_sem]⟩
  ·rintro m' _ ⟨k,hk,hm',hkb,hkI,rfl⟩
   have wk:= iwn (k + 1) (by omega : (k : Int) + 1 = ((k + 1 : Nat) : Int)) (by omega)
   by_cases h : k ≤ j
   ·have f1 : ((k : Int) ≤ (j : Int)) = True:= eq_true (by omega)
    have gK:= dC_ld tl (show k < x.size by omega)
    have bK : (k : Int) < (d.size : Int):= by omega
    simp only [go_sem,f1,decide_true,gA,gK,bA,bK,Int.natCast_nonneg,Int.toNat_natCast,Nat.zero_add,Nat.mul_one]
    refine callX_of (C_Less x[a]! x[k]!) ?_
    cases hl : ltInt x[a]! x[k]! with
    | true =>
     rw [scanUp_f (fun _ => by simp [hl])] at hkI
     subst hkI
     simp only [go_sem]
    | false =>
     rw [scanUp_t h (by simp [hl])] at hkI
     simp only [go_sem,wk]
     exact ⟨m' - 1,by omega,k + 1,by omega,by omega,by omega,hkI,rfl⟩
   ·have f1 : ((k : Int) ≤ (j : Int)) = False:= eq_false (by omega)
    rw [scanUp_f (fun h' => absurd h' h)] at hkI
    subst hkI
    simp only [go_sem,f1,decide_false]
  ·simp only [go_sem]
   refine aw_loopE (fun m' E => ∃ (k : Nat),k ≤ m' ∧ k ≤ j ∧ scanDown (fun y => ltInt x[a]! y) x I k = J ∧ E = mkE [(0,dS d.size cap),(1,iI a),(9,iI I),(10,iI k)] [(100000,dC x tl)]) j 4
    (mkE [(0,dS d.size cap),(1,iI a),(9,iI I),(10,iI J),(59,.lit (.bool false))] [(100000,dC x tl)]) ?_ ?_ ?_
   ·exact ⟨j,Nat.le_refl _,Nat.le_refl _,hJ,by simp only [go_sem]⟩
   ·rintro m' _ ⟨k,hm',hkj,hkJ,rfl⟩
    by_cases h : I ≤ k
    ·have f1 : ((I : Int) ≤ (k : Int)) = True:= eq_true (by omega)
     have wk:= iwn (k - 1) (by omega : (k : Int) - 1 = ((k - 1 : Nat) : Int)) (by omega)
     have gK:= dC_ld tl (show k < x.size by omega)
     have bK : (k : Int) < (d.size : Int):= by omega
     simp only [go_sem,f1,decide_true,gA,gK,bA,bK,Int.natCast_nonneg,Int.toNat_natCast,Nat.zero_add,Nat.mul_one]
     refine callX_of (C_Less x[a]! x[k]!) ?_
     cases hl : ltInt x[a]! x[k]! with
     | false =>
      rw [scanDown_f (fun _ => by simp [hl])] at hkJ
      subst hkJ
      simp only [go_sem]
     | true =>
      rw [scanDown_t (by omega) h (by simp [hl])] at hkJ
      simp only [go_sem,wk]
      exact ⟨m' - 1,by omega,k - 1,by omega,by omega,hkJ,rfl⟩
    ·have f1 : ((I : Int) ≤ (k : Int)) = False:= eq_false (by omega)
     rw [scanDown_f (fun h' => absurd h' h)] at hkJ
     subst hkJ
     simp only [go_sem,f1,decide_false]
   ·by_cases h : J < I
    ·have f1 : ((J : Int) < (I : Int)) = True:= eq_true (by omega)
     rw [if_pos h] at hr
     simp only [go_sem,f1,decide_true,endM_n,endM_r,← hr,retC_dC ht,and_self]
    ·have f1 : ((J : Int) < (I : Int)) = False:= eq_false (by omega)
     rw [if_neg h] at hr
     obtain ⟨g3,g4,l1,s1,l2,s2⟩:= swp_cells (x:= x) tl (show I < x.size by omega) (show J < x.size by omega)
     have bI : (I : Int) < (d.size : Int):= by omega
     have bJ : (J : Int) < (d.size : Int):= by omega
     simp only [go_sem,f1,decide_false,bI,bJ,g3,g4,l1,s1,l2,s2,Int.natCast_nonneg,Int.toNat_natCast,Nat.zero_add,Nat.mul_one,swp_def,
      iwn (I + 1) (by omega : (I : Int) + 1 = ((I + 1 : Nat) : Int)) (by omega),iwn (J - 1) (by omega : (J : Int) - 1 = ((J - 1 : Nat) : Int)) (by omega)]
     exact ⟨m - 1,by omega,I + 1,J - 1,_,by rw [swp_size,hx],by omega,by omega,by omega,by omega,hr,rfl⟩
theorem partition_eq (d : Array Int) (a b p : Nat) : partition ltInt d a b p =
  if scanUp (fun y => ltInt y (swp d a p)[a]!) (swp d a p) (b - 1) (a + 1) > scanDown (fun y => !ltInt y (swp d a p)[a]!) (swp d a p) (scanUp (fun y => ltInt y (swp d a p)[a]!) (swp d a p) (b - 1) (a + 1)) (b - 1) then
   (scanDown (fun y => !ltInt y (swp d a p)[a]!) (swp d a p) (scanUp (fun y => ltInt y (swp d a p)[a]!) (swp d a p) (b - 1) (a + 1)) (b - 1),true,swp (swp d a p) (scanDown (fun y => !ltInt y (swp d a p)[a]!) (swp d a p) (scanUp (fun y => ltInt y (swp d a p)[a]!) (swp d a p) (b - 1) (a + 1)) (b - 1)) a)
  else ((partLoop ltInt a (scanUp (fun y => ltInt y (swp d a p)[a]!) (swp d a p) (b - 1) (a + 1) + 1) (scanDown (fun y => !ltInt y (swp d a p)[a]!) (swp d a p) (scanUp (fun y => ltInt y (swp d a p)[a]!) (swp d a p) (b - 1) (a + 1)) (b - 1) - 1)
    (swp (swp d a p) (scanUp (fun y => ltInt y (swp d a p)[a]!) (swp d a p) (b - 1) (a + 1)) (scanDown (fun y => !ltInt y (swp d a p)[a]!) (swp d a p) (scanUp (fun y => ltInt y (swp d a p)[a]!) (swp d a p) (b - 1) (a + 1)) (b - 1)))).1,false,
   swp (partLoop ltInt a (scanUp (fun y => ltInt y (swp d a p)[a]!) (swp d a p) (b - 1) (a + 1) + 1) (scanDown (fun y => !ltInt y (swp d a p)[a]!) (swp d a p) (scanUp (fun y => ltInt y (swp d a p)[a]!) (swp d a p) (b - 1) (a + 1)) (b - 1) - 1)
    (swp (swp d a p) (scanUp (fun y => ltInt y (swp d a p)[a]!) (swp d a p) (b - 1) (a + 1)) (scanDown (fun y => !ltInt y (swp d a p)[a]!) (swp d a p) (scanUp (fun y => ltInt y (swp d a p)[a]!) (swp d a p) (b - 1) (a + 1)) (b - 1)))).2
    (partLoop ltInt a (scanUp (fun y => ltInt y (swp d a p)[a]!) (swp d a p) (b - 1) (a + 1) + 1) (scanDown (fun y => !ltInt y (swp d a p)[a]!) (swp d a p) (scanUp (fun y => ltInt y (swp d a p)[a]!) (swp d a p) (b - 1) (a + 1)) (b - 1) - 1)
    (swp (swp d a p) (scanUp (fun y => ltInt y (swp d a p)[a]!) (swp d a p) (b - 1) (a + 1)) (scanDown (fun y => !ltInt y (swp d a p)[a]!) (swp d a p) (scanUp (fun y => ltInt y (swp d a p)[a]!) (swp d a p) (b - 1) (a + 1)) (b - 1)))).1 a):= rfl
theorem C_partition {d : Array Int} {a b p cap : Nat} {tl : List AV} (ht : Tl tl) (hp1 : a ≤ p) (hp2 : p < b) (hab : a + 1 < b) (hb : b ≤ d.size) (hd : d.size ≤ 255) :
  AM Tryz.prog f_q92 [dS d.size cap,iI a,iI b,iI p] [(100000,dC d tl)] (.tup [iI (partition ltInt d a b p).1,.lit (.bool (partition ltInt d a b p).2.1)]) [(100000,dC (partition ltInt d a b p).2.2 tl)]:= by
 refine am_q92 ?_ (by simp) (Nat.le_add_left 4 _)
 have bA : (a : Int) < (d.size : Int):= by omega
 have bP : (p : Int) < (d.size : Int):= by omega
 obtain ⟨g3,g4,l1,s1,l2,s2⟩:= swp_cells (x:= d) tl (show a < d.size by omega) (show p < d.size by omega)
 simp only [go_sem,env0M_mk,c_q92,List.map_cons,List.map_nil,bA,bP,g3,g4,l1,s1,l2,s2,Int.natCast_nonneg,Int.toNat_natCast,Nat.zero_add,Nat.mul_one,swp_def,
  iwn (a + 1) (by omega : (a : Int) + 1 = ((a + 1 : Nat) : Int)) (by omega),iwn (b - 1) (by omega : (b : Int) - 1 = ((b - 1 : Nat) : Int)) (by omega)]
 clear g3 g4 l1 s1 l2 s2
 have hR:= partition_eq d a b p
 have hx : (swp d a p).size = d.size:= swp_size _ _ _
 generalize swp d a p = x at hR hx
 have gA:= dC_ld tl (show a < x.size by omega)
 have hI1:= scanUp_ge (fun y => ltInt y x[a]!) x (b - 1) (a + 1)
 have hI2:= scanUp_le (p:= fun y => ltInt y x[a]!) (d:= x) (j:= b - 1) (i:= a + 1) (n:= b) (by omega) (by omega)
 generalize hI : scanUp (fun y => ltInt y x[a]!) x (b - 1) (a + 1) = I at hR hI1 hI2
 have hJ1:= scanDown_le (fun y => !ltInt y x[a]!) x I (b - 1)
 generalize hJ : scanDown (fun y => !ltInt y x[a]!) x I (b - 1) = J at hR hJ1
 refine aw_loopE (fun m' E => ∃ (k : Nat),a < k ∧ b - k ≤ m' ∧ k ≤ b ∧ scanUp (fun y => ltInt y x[a]!) x (b - 1) k = I ∧ E = mkE [(0,dS d.size cap),(1,iI a),(10,iI k),(11,iI (b - 1 : Nat))] [(100000,dC x tl)]) b 0
  (mkE [(0,dS d.size cap),(1,iI a),(10,iI I),(11,iI (b - 1 : Nat)),(43,.lit (.bool false))] [(100000,dC x tl)]) ?_ ?_ ?_
 ·exact ⟨a + 1,by omega,by omega,by omega,hI,by simp only [go_sem]⟩
 ·rintro m' _ ⟨k,hk,hm',hkb,hkI,rfl⟩
  have wk:= iwn (k + 1) (by omega : (k : Int) + 1 = ((k + 1 : Nat) : Int)) (by omega)
  by_cases h : k ≤ b - 1
  ·have f1 : ((k : Int) ≤ ((b - 1 : Nat) : Int)) = True:= eq_true (by omega)
   have gK:= dC_ld tl (show k < x.size by omega)
   have bK : (k : Int) < (d.size : Int):= by omega
   simp only [go_sem,f1,decide_true,gA,gK,bA,bK,Int.natCast_nonneg,Int.toNat_natCast,Nat.zero_add,Nat.mul_one]
   refine callX_of (C_Less x[k]! x[a]!) ?_
   cases hl : ltInt x[k]! x[a]! with
   | false =>
    rw [scanUp_f (fun _ => by simp [hl])] at hkI
    subst hkI
    simp only [go_sem]
   | true =>
    rw [scanUp_t h (by simp [hl])] at hkI
    simp only [go_sem,wk]
    exact ⟨m' - 1,by omega,k + 1,by omega,by omega,by omega,hkI,rfl⟩
  ·have f1 : ((k : Int) ≤ ((b - 1 : Nat) : Int)) = False:= eq_false (by omega)
   rw [scanUp_f (fun h' => absurd h' h)] at hkI
   subst hkI
   simp only [go_sem,f1,decide_false]
 ·simp only [go_sem]
  refine aw_loopE (fun m' E => ∃ (k : Nat),k ≤ m' ∧ k ≤ b - 1 ∧ scanDown (fun y => !ltInt y x[a]!) x I k = J ∧ E = mkE [(0,dS d.size cap),(1,iI a),(10,iI I),(11,iI k)] [(100000,dC x tl)]) (b - 1) 2
   (mkE [(0,dS d.size cap),(1,iI a),(10,iI I),(11,iI J),(60,.lit (.bool false))] [(100000,dC x tl)]) ?_ ?_ ?_
  ·exact ⟨b - 1,Nat.le_refl _,Nat.le_refl _,hJ,by simp only [go_sem]⟩
  ·rintro m' _ ⟨k,hm',hkj,hkJ,rfl⟩
   by_cases h : I ≤ k
   ·have f1 : ((I : Int) ≤ (k : Int)) = True:= eq_true (by omega)
    have wk:= iwn (k - 1) (by omega : (k : Int) - 1 = ((k - 1 : Nat) : Int)) (by omega)
    have gK:= dC_ld tl (show k < x.size by omega)
    have bK : (k : Int) < (d.size : Int):= by omega
    simp only [go_sem,f1,decide_true,gA,gK,bA,bK,Int.natCast_nonneg,Int.toNat_natCast,Nat.zero_add,Nat.mul_one]
    refine callX_of (C_Less x[k]! x[a]!) ?_
    cases hl : ltInt x[k]! x[a]! with
    | true =>
     rw [scanDown_f (fun _ => by simp [hl])] at hkJ
     subst hkJ
     simp only [go_sem,Bool.not_true]
    | false =>
     rw [scanDown_t (by omega) h (by simp [hl])] at hkJ
     simp only [go_sem,wk,Bool.not_false]
     exact ⟨m' - 1,by omega,k - 1,by omega,by omega,hkJ,rfl⟩
   ·have f1 : ((I : Int) ≤ (k : Int)) = False:= eq_false (by omega)
    rw [scanDown_f (fun h' => absurd h' h)] at hkJ
    subst hkJ
    simp only [go_sem,f1,decide_false]
  ·have bI : J < I ∨ (I : Int) < (d.size : Int):= by omega
   have bJ : (J : Int) < (d.size : Int):= by omega
   by_cases h : J < I
   ·have f1 : ((J : Int) < (I : Int)) = True:= eq_true (by omega)
    rw [if_pos h] at hR
    obtain ⟨g3,g4,l1,s1,l2,s2⟩:= swp_cells (x:= x) tl (show J < x.size by omega) (show a < x.size by omega)
    simp only [go_sem,f1,decide_true,bA,bJ,g3,g4,l1,s1,l2,s2,Int.natCast_nonneg,Int.toNat_natCast,Nat.zero_add,Nat.mul_one,swp_def,endM_n,endM_r,hR,retC_dC ht,and_self]
   ·have f1 : ((J : Int) < (I : Int)) = False:= eq_false (by omega)
    rw [if_neg h] at hR
    have bI:= bI.resolve_left h
    obtain ⟨g3,g4,l1,s1,l2,s2⟩:= swp_cells (x:= x) tl (show I < x.size by omega) (show J < x.size by omega)
    simp only [go_sem,f1,decide_false,bI,bJ,g3,g4,l1,s1,l2,s2,Int.natCast_nonneg,Int.toNat_natCast,Nat.zero_add,Nat.mul_one,swp_def,
     iwn (I + 1) (by omega : (I : Int) + 1 = ((I + 1 : Nat) : Int)) (by omega),iwn (J - 1) (by omega : (J : Int) - 1 = ((J - 1 : Nat) : Int)) (by omega)]
    clear g3 g4 l1 s1 l2 s2 gA
    have hz : (swp x I J).size = d.size:= by rw [swp_size,hx]
    have hI3 : a < I + 1:= by omega
    have hI4 : I + 1 ≤ b:= by omega
    have hJ3 : J - 1 < b:= by omega
    generalize hR0 : partLoop ltInt a (I + 1) (J - 1) (swp x I J) = R at hR
    generalize swp x I J = y at hR0 hz ⊢
    generalize I + 1 = I0 at hR0 hI3 hI4 ⊢
    generalize J - 1 = J0 at hR0 hJ3 ⊢
    rw [hR]
    refine aw_loop (fun m E => ∃ (i j : Nat) (x : Array Int),x.size = d.size ∧ a < i ∧ i ≤ b ∧ j < b ∧ j + 1 - i ≤ m ∧ partLoop ltInt a i j x = R ∧
     E = mkE [(0,dS d.size cap),(1,iI a),(10,iI i),(11,iI j)] [(100000,dC x tl)]) (J0 + 1 - I0) ?_ ?_
    ·exact ⟨I0,J0,y,hz,hI3,hI4,hJ3,Nat.le_refl _,hR0,by simp only [go_sem]⟩
    ·clear hI hJ hI1 hI2 hJ1 hR hR0 hz hx
     rintro m _ ⟨i,j,x,hx,hai,hib,hjb,hm,hr,rfl⟩
     have gA:= dC_ld tl (show a < x.size by omega)
     rw [partLoop_eq] at hr
     have hI1:= scanUp_ge (fun y => ltInt y x[a]!) x j i
     have hI2:= scanUp_le (p:= fun y => ltInt y x[a]!) (d:= x) (j:= j) hib (show j + 1 ≤ b by omega)
     generalize hI : scanUp (fun y => ltInt y x[a]!) x j i = I at hr hI1 hI2
     have hJ1:= scanDown_le (fun y => !ltInt y x[a]!) x I j
     generalize hJ : scanDown (fun y => !ltInt y x[a]!) x I j = J at hr hJ1
     simp only [go_sem]
     refine aw_loopE (fun m' E => ∃ (k : Nat),a < k ∧ j + 1 - k ≤ m' ∧ k ≤ b ∧ scanUp (fun y => ltInt y x[a]!) x j k = I ∧ E = mkE [(0,dS d.size cap),(1,iI a),(10,iI k),(11,iI j)] [(100000,dC x tl)]) (j + 1 - i) 6
      (mkE [(0,dS d.size cap),(1,iI a),(10,iI I),(11,iI j),(112,.lit (.bool false))] [(100000,dC x tl)]) ?_ ?_ ?_
     ·exact ⟨i,hai,Nat.le_refl _,hib,hI,by simp only [go_sem]⟩
     ·rintro m' _ ⟨k,hk,hm',hkb,hkI,rfl⟩
      have wk:= iwn (k + 1) (by omega : (k : Int) + 1 = ((k + 1 : Nat) : Int)) (by omega)
      by_cases h : k ≤ j
      ·have f1 : ((k : Int) ≤ (j : Int)) = True:= eq_true (by omega)
       have gK:= dC_ld tl (show k < x.size by omega)
       have bK : (k : Int) < (d.size : Int):= by omega
       simp only [go_sem,f1,decide_true,gA,gK,bA,bK,Int.natCast_nonneg,Int.toNat_natCast,Nat.zero_add,Nat.mul_one]
       refine callX_of (C_Less x[k]! x[a]!) ?_
       cases hl : ltInt x[k]! x[a]! with
       | false =>
        rw [scanUp_f (fun _ => by simp [hl])] at hkI
        subst hkI
        simp only [go_sem]
       | true =>
        rw [scanUp_t h (by simp [hl])] at hkI
        simp only [go_sem,wk]
        exact ⟨m' - 1,by omega,k + 1,by omega,by omega,by omega,hkI,rfl⟩
      ·have f1 : ((k : Int) ≤ (j : Int)) = False:= eq_false (by omega)
       rw [scanUp_f (fun h' => absurd h' h)] at hkI
       subst hkI
       simp only [go_sem,f1,decide_false]
     ·simp only [go_sem]
      refine aw_loopE (fun m' E => ∃ (k : Nat),k ≤ m' ∧ k ≤ j ∧ scanDown (fun y => !ltInt y x[a]!) x I k = J ∧ E = mkE [(0,dS d.size cap),(1,iI a),(10,iI I),(11,iI k)] [(100000,dC x tl)]) j 8
       (mkE [(0,dS d.size cap),(1,iI a),(10,iI I),(11,iI J),(129,.lit (.bool false))] [(100000,dC x tl)]) ?_ ?_ ?_
      ·exact ⟨j,Nat.le_refl _,Nat.le_refl _,hJ,by simp only [go_sem]⟩
      ·rintro m' _ ⟨k,hm',hkj,hkJ,rfl⟩
       by_cases h : I ≤ k
       ·have f1 : ((I : Int) ≤ (k : Int)) = True:= eq_true (by omega)
        have wk:= iwn (k - 1) (by omega : (k : Int) - 1 = ((k - 1 : Nat) : Int)) (by omega)
        have gK:= dC_ld tl (show k < x.size by omega)
        have bK : (k : Int) < (d.size : Int):= by omega
        simp only [go_sem,f1,decide_true,gA,gK,bA,bK,Int.natCast_nonneg,Int.toNat_natCast,Nat.zero_add,Nat.mul_one]
        refine callX_of (C_Less x[k]! x[a]!) ?_
        cases hl : ltInt x[k]! x[a]! with
        | true =>
         rw [scanDown_f (fun _ => by simp [hl])] at hkJ
         subst hkJ
         simp only [go_sem,Bool.not_true]
        | false =>
         rw [scanDown_t (by omega) h (by simp [hl])] at hkJ
         simp only [go_sem,wk,Bool.not_false]
         exact ⟨m' - 1,by omega,k - 1,by omega,by omega,hkJ,rfl⟩
       ·have f1 : ((I : Int) ≤ (k : Int)) = False:= eq_false (by omega)
        rw [scanDown_f (fun h' => absurd h' h)] at hkJ
        subst hkJ
        simp only [go_sem,f1,decide_false]
      ·have bJ : (J : Int) < (d.size : Int):= by omega
       by_cases h : J < I
       ·have f1 : ((J : Int) < (I : Int)) = True:= eq_true (by omega)
        rw [if_pos h] at hr
        obtain ⟨g3,g4,l1,s1,l2,s2⟩:= swp_cells (x:= x) tl (show J < x.size by omega) (show a < x.size by omega)
        simp only [go_sem,f1,decide_true,bA,bJ,g3,g4,l1,s1,l2,s2,Int.natCast_nonneg,Int.toNat_natCast,Nat.zero_add,Nat.mul_one,swp_def,endM_n,endM_r,← hr,retC_dC ht,and_self]
       ·have f1 : ((J : Int) < (I : Int)) = False:= eq_false (by omega)
        rw [if_neg h] at hr
        obtain ⟨g3,g4,l1,s1,l2,s2⟩:= swp_cells (x:= x) tl (show I < x.size by omega) (show J < x.size by omega)
        have bI : (I : Int) < (d.size : Int):= by omega
        simp only [go_sem,f1,decide_false,bI,bJ,g3,g4,l1,s1,l2,s2,Int.natCast_nonneg,Int.toNat_natCast,Nat.zero_add,Nat.mul_one,swp_def,
         iwn (I + 1) (by omega : (I : Int) + 1 = ((I + 1 : Nat) : Int)) (by omega),iwn (J - 1) (by omega : (J : Int) - 1 = ((J - 1 : Nat) : Int)) (by omega)]
        exact ⟨m - 1,by omega,I + 1,J - 1,_,by rw [swp_size,hx],by omega,by omega,by omega,by omega,hr,rfl⟩
end Go.Proofs.YtjceingdmfogeaaGreatDoor.VL
end

section
set_option maxHeartbeats 4000000
namespace Go.Proofs.YtjceingdmfogeaaGreatDoor.VL
open Go.RowKit Go.Proofs Go.Sort
theorem aw_loopB {P : Program} {a : ACode} {kl dl kb : List Nat} {i : Nat} {E : Env} {Q : AExit → Env → Prop} (I : Nat → Env → Prop) (n : Nat) (F : Env) (h0 : I n ((E.dropS kl).freshL dl))
  (h : ∀ m E',I m E' → aw P a E' (thenQ (fun E'' => ∃ k,k < m ∧ I k ((E''.dropS kl).freshL dl)) (fun ex E'' => ex = .exit i ∧ E''.dropS kb = F))) (hF : Q .normal F) : aw P (.loop a kl dl) E (blockQ i kb Q) :=
 aw_mono _ (Q:= fun ex E'' => ex = .exit i ∧ E''.dropS kb = F) (fun ex E'' h => by
  obtain ⟨rfl,rfl⟩:= h
  show if i = i then _ else _
  rw [if_pos rfl]
  exact hF) (aw_loop I n h0 h)
theorem shiftDown_size {lt : Int → Int → Bool} : ∀ (j : Nat) (x : Array Int),(shiftDown lt j x).size = x.size
 | 0,x => rfl
 | j + 1,x => by
  rw [shiftDown]
  split
  ·rfl
  ·rw [shiftDown_size j,swp_size]
theorem shiftUp_size {lt : Int → Int → Bool} {b : Nat} (j : Nat) (x : Array Int) : (shiftUp lt b j x).size = x.size:= by
 generalize hn : b - j = n
 induction n generalizing j x with
 | zero => rw [shiftUp,if_neg (by omega)]
 | succ n ih =>
  rw [shiftUp]
  split
  ·split
   ·rfl
   ·rw [ih _ _ (by omega),swp_size]
  ·rfl
theorem scanSorted_in {lt : Int → Int → Bool} {x : Array Int} {b i : Nat} (h : i ≤ b) : i ≤ scanSorted lt x b i ∧ scanSorted lt x b i ≤ b:= by
 generalize hn : b - i = n
 induction n generalizing i with
 | zero => rw [scanSorted,if_neg (by simp; omega)]; omega
 | succ n ih =>
  rw [scanSorted]
  split
  ·have:= ih (i:= i + 1) (by omega) (by omega)
   omega
  ·omega
theorem C_partialIns {d : Array Int} {a b cap : Nat} {tl : List AV} (ht : Tl tl) (hab : a < b) (hb : b ≤ d.size) (hd : d.size ≤ 255) :
  AM Tryz.prog f_q89 [dS d.size cap,iI a,iI b] [(100000,dC d tl)] (.lit (.bool (partialInsertionSort ltInt d a b).2)) [(100000,dC (partialInsertionSort ltInt d a b).1 tl)]:= by
 refine am_q89 ?_ (by simp) (Nat.le_add_left 3 _)
 simp only [go_sem,env0M_mk,c_q89,List.map_cons,List.map_nil,iwn (a + 1) (by omega : (a : Int) + 1 = ((a + 1 : Nat) : Int)) (by omega)]
 refine aw_loop (fun m E => ∃ (s i : Nat) (x : Array Int),x.size = d.size ∧ a < i ∧ i ≤ b ∧ s ≤ 5 ∧ s ≤ m ∧ partialIns ltInt a b s i x = partialInsertionSort ltInt d a b ∧
  E = mkE [(0,dS d.size cap),(1,iI a),(2,iI b),(7,iI i),(8,iI ((5 - s : Nat)))] [(100000,dC x tl)]) 5 ?_ ?_
 ·exact ⟨5,a + 1,d,rfl,by omega,by omega,by omega,by omega,rfl,by simp only [go_sem,Nat.sub_self,Int.natCast_zero]⟩
 ·rintro m _ ⟨s,i,x,hx,hai,hib,hs5,hm,hr,rfl⟩
  cases s with
  | zero =>
   have f1 : (((5 - 0 : Nat) : Int) < 5) = False:= eq_false (by omega)
   have e : partialInsertionSort ltInt d a b = (x,false):= by rw [← hr]; rfl
   simp only [go_sem,f1,decide_false,endM_n,endM_r,e,retC_dC ht,and_self]
  | succ s =>
   have f1 : (((5 - (s + 1) : Nat) : Int) < 5) = True:= eq_true (by omega)
   have w5:= iwn (5 - s) (by omega : ((5 - (s + 1) : Nat) : Int) + 1 = ((5 - s : Nat) : Int)) (by omega)
   have hk:= scanSorted_in (lt:= ltInt) (x:= x) hib
   rw [partialIns] at hr
   simp only [] at hr
   generalize hK : scanSorted ltInt x b i = k at hr hk
   simp only [go_sem,f1,decide_true]
   refine aw_loopB (fun m' E => ∃ (j : Nat),a < j ∧ j ≤ b ∧ b - j ≤ m' ∧ scanSorted ltInt x b j = k ∧
    E = mkE [(0,dS d.size cap),(1,iI a),(2,iI b),(7,iI j),(8,iI ((5 - (s + 1) : Nat)))] [(100000,dC x tl)]) b
    (mkE [(0,dS d.size cap),(1,iI a),(2,iI b),(7,iI k),(8,iI ((5 - (s + 1) : Nat)))] [(100000,dC x tl)]) ?_ ?_ ?_
   ·exact ⟨i,hai,hib,by omega,hK,by simp only [go_sem]⟩
   ·rintro m' _ ⟨j,haj,hjb,hm',hjk,rfl⟩
    by_cases h6 : j < b
    ·have f5 : ((j : Int) < (b : Int)) = True:= eq_true (by omega)
     have wj:= iwn (j - 1) (by omega : (j : Int) - 1 = ((j - 1 : Nat) : Int)) (by omega)
     have wj2:= iwn (j + 1) (by omega : (j : Int) + 1 = ((j + 1 : Nat) : Int)) (by omega)
     have bj : (j : Int) < (d.size : Int):= by omega
     have bj1 : ((j - 1 : Nat) : Int) < (d.size : Int):= by omega
     have g3:= dC_ld tl (show j < x.size by omega)
     have g4:= dC_ld tl (show j - 1 < x.size by omega)
     simp only [go_sem,f5,decide_true,wj,bj,bj1,g3,g4,Int.natCast_nonneg,Int.toNat_natCast,Nat.zero_add,Nat.mul_one]
     refine callX_of (C_Less x[j]! x[j - 1]!) ?_
     rw [scanSorted] at hjk
     cases hl : ltInt x[j]! x[j - 1]! with
     | true =>
      rw [if_neg (by simp [hl])] at hjk
      subst hjk
      simp only [go_sem,Bool.not_true,and_self]
     | false =>
      rw [if_pos (by simp [hl,h6])] at hjk
      simp only [go_sem,Bool.not_false,wj2]
      exact ⟨m' - 1,by omega,j + 1,by omega,by omega,by omega,hjk,rfl⟩
    ·have f5 : ((j : Int) < (b : Int)) = False:= eq_false (by omega)
     rw [scanSorted,if_neg (by simp [h6])] at hjk
     subst hjk
     simp only [go_sem,f5,decide_false,and_self]
   by_cases hkb : k = b
   ·have f2 : ((k : Int) == (b : Int)) = true:= by simp [hkb]
    rw [if_pos hkb] at hr
    simp only [go_sem,f2,endM_n,endM_r,← hr,retC_dC ht,and_self]
   have f2 : ((k : Int) == (b : Int)) = false:= by simp; omega
   rw [if_neg hkb] at hr
   have wB:= iwn (b - a) (by omega : (b : Int) - (a : Int) = ((b - a : Nat) : Int)) (by omega)
   by_cases h50 : b - a < 50
   ·have f3 : (((b - a : Nat) : Int) < 50) = True:= eq_true (by omega)
    rw [if_pos h50] at hr
    simp only [go_sem,f2,wB,f3,decide_true,endM_n,endM_r,← hr,retC_dC ht,and_self]
   have f3 : (((b - a : Nat) : Int) < 50) = False:= eq_false (by omega)
   rw [if_neg h50] at hr
   have wk1:= iwn (k + 1) (by omega : (k : Int) + 1 = ((k + 1 : Nat) : Int)) (by omega)
   have wk2:= iwn (k - 1) (by omega : (k : Int) - 1 = ((k - 1 : Nat) : Int)) (by omega)
   have bk : (k : Int) < (d.size : Int):= by omega
   have bk1 : ((k - 1 : Nat) : Int) < (d.size : Int):= by omega
   have wD:= iwn (k - a) (by omega : (k : Int) - (a : Int) = ((k - a : Nat) : Int)) (by omega)
   obtain ⟨g3,g4,l1,s1,l2,s2⟩:= swp_cells (x:= x) tl (show k < x.size by omega) (show k - 1 < x.size by omega)
   have hy : (swp x k (k - 1)).size = d.size:= by rw [swp_size,hx]
   by_cases hdn : 2 ≤ k - a
   ·have f6 : ((2 : Int) ≤ ((k - a : Nat) : Int)) = True:= eq_true (by omega)
    rw [if_pos hdn] at hr
    simp only [go_sem,f2,wB,f3,decide_false,wk2,bk,bk1,g3,g4,l1,s1,l2,s2,Int.natCast_nonneg,Int.toNat_natCast,Nat.zero_add,Nat.mul_one,swp_def,wD,f6,decide_true]
    clear g3 g4 l1 s1 l2 s2
    generalize swp x k (k - 1) = y0 at hr hy ⊢
    have hy' : (shiftDown ltInt (k - 1) y0).size = d.size:= by rw [shiftDown_size,hy]
    refine aw_loopB (fun m' E => ∃ (j : Nat) (z : Array Int),z.size = d.size ∧ j < b ∧ j ≤ m' ∧ shiftDown ltInt j z = shiftDown ltInt (k - 1) y0 ∧
     E = mkE [(0,dS d.size cap),(1,iI a),(2,iI b),(7,iI k),(8,iI ((5 - (s + 1) : Nat))),(9,iI j)] [(100000,dC z tl)]) b
     (mkE [(0,dS d.size cap),(1,iI a),(2,iI b),(7,iI k),(8,iI ((5 - (s + 1) : Nat)))] [(100000,dC (shiftDown ltInt (k - 1) y0) tl)]) ?_ ?_ ?_
    ·exact ⟨k - 1,y0,hy,by omega,by omega,rfl,by simp only [go_sem]⟩
    ·rintro m' _ ⟨j,z,hz,hkj,hm',hr',rfl⟩
     cases j with
     | zero =>
      have f5 : ((1 : Int) ≤ ((0 : Nat) : Int)) = False:= eq_false (by omega)
      have e5 : shiftDown ltInt (k - 1) y0 = z:= by rw [← hr']; rfl
      simp only [go_sem,f5,decide_false,e5,and_self]
     | succ j =>
      have f5 : ((1 : Int) ≤ ((j + 1 : Nat) : Int)) = True:= eq_true (by omega)
      have wj:= iwn j (by omega : ((j + 1 : Nat) : Int) - 1 = (j : Int)) (by omega)
      have bj : ((j + 1 : Nat) : Int) < (d.size : Int):= by omega
      have bj1 : (j : Int) < (d.size : Int):= by omega
      obtain ⟨g3,g4,l1,s1,l2,s2⟩:= swp_cells (x:= z) tl (show j + 1 < z.size by omega) (show j < z.size by omega)
      simp only [go_sem,f5,decide_true,wj,bj,bj1,g3,g4,Int.natCast_nonneg,Int.toNat_natCast,Nat.zero_add,Nat.mul_one]
      refine callX_of (C_Less z[j + 1]! z[j]!) ?_
      rw [shiftDown] at hr'
      cases hl : ltInt z[j + 1]! z[j]! with
      | true =>
       rw [if_neg (by simp [hl])] at hr'
       simp only [go_sem,Bool.not_true,wj,bj,bj1,g3,g4,l1,s1,l2,s2,Int.natCast_nonneg,Int.toNat_natCast,Nat.zero_add,Nat.mul_one,swp_def]
       exact ⟨m' - 1,by omega,j,_,by rw [swp_size,hz],by omega,by omega,hr',rfl⟩
      | false =>
       rw [if_pos (by simp [hl])] at hr'
       simp only [go_sem,Bool.not_false,← hr',and_self]
    clear hy
    generalize shiftDown ltInt (k - 1) y0 = y at hr hy' ⊢
    have hy:= hy'
    have wU:= iwn (b - k) (by omega : (b : Int) - (k : Int) = ((b - k : Nat) : Int)) (by omega)
    by_cases hu : 2 ≤ b - k
    ·have f4 : ((2 : Int) ≤ ((b - k : Nat) : Int)) = True:= eq_true (by omega)
     rw [if_pos hu] at hr
     simp only [go_sem,wU,f4,decide_true,wk1]
     refine aw_loopB (fun m' E => ∃ (j : Nat) (z : Array Int),z.size = d.size ∧ k < j ∧ b - j ≤ m' ∧ shiftUp ltInt b j z = shiftUp ltInt b (k + 1) y ∧
      E = mkE [(0,dS d.size cap),(1,iI a),(2,iI b),(7,iI k),(8,iI ((5 - (s + 1) : Nat))),(10,iI j)] [(100000,dC z tl)]) b
      (mkE [(0,dS d.size cap),(1,iI a),(2,iI b),(7,iI k),(8,iI ((5 - (s + 1) : Nat)))] [(100000,dC (shiftUp ltInt b (k + 1) y) tl)]) ?_ ?_ ?_
     ·exact ⟨k + 1,y,hy,by omega,by omega,rfl,by simp only [go_sem]⟩
     ·rintro m' _ ⟨j,z,hz,hkj,hm',hr',rfl⟩
      by_cases h6 : j < b
      ·have f5 : ((j : Int) < (b : Int)) = True:= eq_true (by omega)
       have wj:= iwn (j - 1) (by omega : (j : Int) - 1 = ((j - 1 : Nat) : Int)) (by omega)
       have wj2:= iwn (j + 1) (by omega : (j : Int) + 1 = ((j + 1 : Nat) : Int)) (by omega)
       have bj : (j : Int) < (d.size : Int):= by omega
       have bj1 : ((j - 1 : Nat) : Int) < (d.size : Int):= by omega
       obtain ⟨g3,g4,l1,s1,l2,s2⟩:= swp_cells (x:= z) tl (show j < z.size by omega) (show j - 1 < z.size by omega)
       simp only [go_sem,f5,decide_true,wj,bj,bj1,g3,g4,Int.natCast_nonneg,Int.toNat_natCast,Nat.zero_add,Nat.mul_one]
       refine callX_of (C_Less z[j]! z[j - 1]!) ?_
       rw [shiftUp,if_pos h6] at hr'
       cases hl : ltInt z[j]! z[j - 1]! with
       | true =>
        rw [if_neg (by simp [hl])] at hr'
        simp only [go_sem,Bool.not_true,wj,wj2,bj,bj1,g3,g4,l1,s1,l2,s2,Int.natCast_nonneg,Int.toNat_natCast,Nat.zero_add,Nat.mul_one,swp_def]
        exact ⟨m' - 1,by omega,j + 1,_,by rw [swp_size,hz],by omega,by omega,hr',rfl⟩
       | false =>
        rw [if_pos (by simp [hl])] at hr'
        simp only [go_sem,Bool.not_false,← hr',and_self]
      ·have f5 : ((j : Int) < (b : Int)) = False:= eq_false (by omega)
       have e5 : shiftUp ltInt b (k + 1) y = z:= by rw [← hr',shiftUp,if_neg h6]
       simp only [go_sem,f5,decide_false,e5,and_self]
     ·simp only [go_sem,w5]
      exact ⟨m - 1,by omega,s,k,_,by rw [shiftUp_size,hy],by omega,by omega,by omega,by omega,hr,rfl⟩
    ·have f4 : ((2 : Int) ≤ ((b - k : Nat) : Int)) = False:= eq_false (by omega)
     rw [if_neg hu] at hr
     simp only [go_sem,wU,f4,decide_false,w5]
     exact ⟨m - 1,by omega,s,k,_,hy,by omega,by omega,by omega,by omega,hr,rfl⟩
   ·have f6 : ((2 : Int) ≤ ((k - a : Nat) : Int)) = False:= eq_false (by omega)
    rw [if_neg hdn] at hr
    simp only [go_sem,f2,wB,f3,decide_false,wk2,bk,bk1,g3,g4,l1,s1,l2,s2,Int.natCast_nonneg,Int.toNat_natCast,Nat.zero_add,Nat.mul_one,swp_def,wD,f6]
    clear g3 g4 l1 s1 l2 s2
    generalize swp x k (k - 1) = y at hr hy ⊢
    have wU:= iwn (b - k) (by omega : (b : Int) - (k : Int) = ((b - k : Nat) : Int)) (by omega)
    by_cases hu : 2 ≤ b - k
    ·have f4 : ((2 : Int) ≤ ((b - k : Nat) : Int)) = True:= eq_true (by omega)
     rw [if_pos hu] at hr
     simp only [go_sem,wU,f4,decide_true,wk1]
     refine aw_loopB (fun m' E => ∃ (j : Nat) (z : Array Int),z.size = d.size ∧ k < j ∧ b - j ≤ m' ∧ shiftUp ltInt b j z = shiftUp ltInt b (k + 1) y ∧
      E = mkE [(0,dS d.size cap),(1,iI a),(2,iI b),(7,iI k),(8,iI ((5 - (s + 1) : Nat))),(10,iI j)] [(100000,dC z tl)]) b
      (mkE [(0,dS d.size cap),(1,iI a),(2,iI b),(7,iI k),(8,iI ((5 - (s + 1) : Nat)))] [(100000,dC (shiftUp ltInt b (k + 1) y) tl)]) ?_ ?_ ?_
     ·exact ⟨k + 1,y,hy,by omega,by omega,rfl,by simp only [go_sem]⟩
     ·rintro m' _ ⟨j,z,hz,hkj,hm',hr',rfl⟩
      by_cases h6 : j < b
      ·have f5 : ((j : Int) < (b : Int)) = True:= eq_true (by omega)
       have wj:= iwn (j - 1) (by omega : (j : Int) - 1 = ((j - 1 : Nat) : Int)) (by omega)
       have wj2:= iwn (j + 1) (by omega : (j : Int) + 1 = ((j + 1 : Nat) : Int)) (by omega)
       have bj : (j : Int) < (d.size : Int):= by omega
       have bj1 : ((j - 1 : Nat) : Int) < (d.size : Int):= by omega
       obtain ⟨g3,g4,l1,s1,l2,s2⟩:= swp_cells (x:= z) tl (show j < z.size by omega) (show j - 1 < z.size by omega)
       simp only [go_sem,f5,decide_true,wj,bj,bj1,g3,g4,Int.natCast_nonneg,Int.toNat_natCast,Nat.zero_add,Nat.mul_one]
       refine callX_of (C_Less z[j]! z[j - 1]!) ?_
       rw [shiftUp,if_pos h6] at hr'
       cases hl : ltInt z[j]! z[j - 1]! with
       | true =>
        rw [if_neg (by simp [hl])] at hr'
        simp only [go_sem,Bool.not_true,wj,wj2,bj,bj1,g3,g4,l1,s1,l2,s2,Int.natCast_nonneg,Int.toNat_natCast,Nat.zero_add,Nat.mul_one,swp_def]
        exact ⟨m' - 1,by omega,j + 1,_,by rw [swp_size,hz],by omega,by omega,hr',rfl⟩
       | false =>
        rw [if_pos (by simp [hl])] at hr'
        simp only [go_sem,Bool.not_false,← hr',and_self]
      ·have f5 : ((j : Int) < (b : Int)) = False:= eq_false (by omega)
       have e5 : shiftUp ltInt b (k + 1) y = z:= by rw [← hr',shiftUp,if_neg h6]
       simp only [go_sem,f5,decide_false,e5,and_self]
     ·simp only [go_sem,w5]
      exact ⟨m - 1,by omega,s,k,_,by rw [shiftUp_size,hy],by omega,by omega,by omega,by omega,hr,rfl⟩
    ·have f4 : ((2 : Int) ≤ ((b - k : Nat) : Int)) = False:= eq_false (by omega)
     rw [if_neg hu] at hr
     simp only [go_sem,wU,f4,decide_false,w5]
     exact ⟨m - 1,by omega,s,k,_,hy,by omega,by omega,by omega,by omega,hr,rfl⟩
end Go.Proofs.YtjceingdmfogeaaGreatDoor.VL
end

section
set_option maxHeartbeats 8000000
namespace Go.Proofs.YtjceingdmfogeaaGreatDoor.VL
open Go.RowKit Go.Proofs Go.Sort
theorem condX_cut {P : Program} {v : AV} {a b : ACode} {E : Env} {Q : AExit → Env → Prop} {K : Env → Prop} (F : Env → Prop) (h : condX v P a b E (thenQ F Q)) (hF : ∀ E',F E' → K E') : condX v P a b E (thenQ K Q):= by
 obtain ⟨t,ht,h1,h2⟩:= h
 have m : ∀ ex E',thenQ F Q ex E' → thenQ K Q ex E':= fun ex E' h => by
  cases ex with
  | normal => exact hF _ h
  | exit i => exact h
  | ret => exact h
 exact ⟨t,ht,fun e => aw_mono _ m (h1 e),fun e => aw_mono _ m (h2 e)⟩
theorem aw_cut {P : Program} {c rest : ACode} {E : Env} {Q : AExit → Env → Prop} (F : Env → Prop) (h : aw P c E (thenQ F Q)) (hF : ∀ E',F E' → aw P rest E' Q) : aw P (.seq c rest) E Q :=
 aw_mono c (Q:= thenQ F Q) (fun ex E' h => by
  cases ex with
  | normal => exact hF _ h
  | exit i => exact h
  | ret => exact h) h
theorem mkE_ext {s s' : List (Nat × AV)} (c : List (Nat × List AV)) (h : ∀ k,getA s k = getA s' k) : mkE s c = mkE s' c:= by
 show (⟨getA s,getC c⟩ : Env) = ⟨getA s',getC c⟩
 rw [funext h]
theorem hintI_two (h : Hint) : (hintI h == 2) = decide (h = .decreasing):= by cases h <;> rfl
theorem hintI_one (h : Hint) : (hintI h == 1) = decide (h = .increasing):= by cases h <;> rfl
theorem C_pdq {tl : List AV} (ht : Tl tl) (cap : Nat) : ∀ (n : Nat) (d : Array Int) (a b limit : Nat),b - a < n → a ≤ b → b ≤ d.size → d.size ≤ 255 → limit ≤ 8 → Below ltInt a b d →
  AM Tryz.prog f_q50 [dS d.size cap,iI a,iI b,iI limit] [(100000,dC d tl)] (.tup []) [(100000,dC (pdq ltInt d a b limit true true) tl)]:= by
 intro n
 induction n with
 | zero => intro d a b limit h; exact absurd h (Nat.not_lt_zero _)
 | succ n ih =>
  intro d a b limit hn hab hb hd hlim hBel
  refine am_q50 ?_ (by simp) (Nat.le_add_left 4 _)
  simp only [go_sem,env0M_mk,c_q50,List.map_cons,List.map_nil]
  refine aw_loop (fun m E => ∃ (a' b' lim : Nat) (wb wp : Bool) (x : Array Int),a' ≤ b' ∧ b' ≤ d.size ∧ b' - a' ≤ m ∧ b' - a' ≤ b - a ∧ lim ≤ 8 ∧ x.size = d.size ∧ Below ltInt a' b' x ∧ pdq ltInt x a' b' lim wb wp = pdq ltInt d a b limit true true ∧
   E = mkE [(0,dS d.size cap),(1,iI a'),(2,iI b'),(3,iI lim),(8,.lit (.bool wb)),(9,.lit (.bool wp))] [(100000,dC x tl)]) (b - a) ?_ ?_
  ·exact ⟨a,b,limit,true,true,d,hab,hb,Nat.le_refl _,Nat.le_refl _,hlim,rfl,hBel,rfl,by simp only [go_sem]⟩
  ·rintro m _ ⟨a',b',lim,wb,wp,x,hab',hb',hm,hN,hl8,hx,hB,heq,rfl⟩
   have wl:= iwn (b' - a') (by omega : (b' : Int) - (a' : Int) = ((b' - a' : Nat) : Int)) (by omega)
   by_cases h12 : b' - a' ≤ 12
   ·have f1 : (((b' - a' : Nat) : Int) ≤ 12) = True:= eq_true (by omega)
    rw [pdq_small h12] at heq
    have hC:= C_insertion (cap:= cap) (d:= x) ht hab' (by omega) (by omega)
    rw [hx,heq] at hC
    simp only [go_sem,wl,f1,decide_true]
    refine callD_of ht rfl hC ?_
    simp only [go_sem,endM_n,endM_r,retC_dC ht,and_self]
   have f1 : (((b' - a' : Nat) : Int) ≤ 12) = False:= eq_false (by omega)
   by_cases hl0 : lim = 0
   ·have f2 : ((lim : Int) == 0) = true:= by simp [hl0]
    rw [pdq_heap h12 hl0] at heq
    have hC:= C_heap (cap:= cap) (d:= x) ht (show a' < b' by omega) (by omega) (by omega)
    rw [hx,heq] at hC
    simp only [go_sem,wl,f1,decide_false,f2]
    refine callD_of ht rfl hC ?_
    simp only [go_sem,endM_n,endM_r,retC_dC ht,and_self]
   have f2 : ((lim : Int) == 0) = false:= by simp; omega
   obtain ⟨s1,B1,hc1,s2,B2,hpv,s3,B3⟩:= rd_facts (limit:= lim) (wb:= wb) (wp:= wp) swo_ltInt partialInsertionSort_holds reverseRange_holds (show a' < b' by omega) (show b' ≤ x.size by omega) hB
   have hD:= pdq_done (lt:= ltInt) (d:= x) (a:= a') (b:= b') (limit:= lim) (wb:= wb) (wp:= wp) h12 hl0
   have hE:= pdq_eq (lt:= ltInt) (d:= x) (a:= a') (b:= b') (limit:= lim) (wb:= wb) (wp:= wp) h12 hl0
   have hL:= pdq_left (lt:= ltInt) (d:= x) (a:= a') (b:= b') (limit:= lim) (wb:= wb) (wp:= wp) h12 hl0
   have hR:= pdq_right (lt:= ltInt) (d:= x) (a:= a') (b:= b') (limit:= lim) (wb:= wb) (wp:= wp) h12 hl0
   have hb1 : wb = false → (rd ltInt x a' b' lim wb wp).d1 = breakPatterns x a' b' ∧ (rd ltInt x a' b' lim wb wp).lim = lim - 1:= by rintro rfl; exact rd_false
   have hb2 : wb = true → (rd ltInt x a' b' lim wb wp).d1 = x ∧ (rd ltInt x a' b' lim wb wp).lim = lim:= by rintro rfl; exact rd_true
   have hcp:= rd_c (lt:= ltInt) (d:= x) (a:= a') (b:= b') (limit:= lim) (wb:= wb) (wp:= wp)
   have hdec:= rd_dec (lt:= ltInt) (d:= x) (a:= a') (b:= b') (limit:= lim) (wb:= wb) (wp:= wp)
   have hnot:= rd_not (lt:= ltInt) (d:= x) (a:= a') (b:= b') (limit:= lim) (wb:= wb) (wp:= wp)
   have hpy:= rd_pi_yes (lt:= ltInt) (d:= x) (a:= a') (b:= b') (limit:= lim) (wb:= wb) (wp:= wp)
   have hpn:= rd_pi_no (lt:= ltInt) (d:= x) (a:= a') (b:= b') (limit:= lim) (wb:= wb) (wp:= wp)
   have hll:= rd_lim_le (lt:= ltInt) (d:= x) (a:= a') (b:= b') (limit:= lim) (wb:= wb) (wp:= wp)
   generalize rd ltInt x a' b' lim wb wp = r at s1 B1 hc1 s2 B2 hpv s3 B3 hD hE hL hR hb1 hb2 hcp hdec hnot hpy hpn hll
   simp only [go_sem,wl,f1,decide_false,f2]
   refine condX_cut (fun E' => ∃ z,E' = mkE [(0,dS d.size cap),(1,iI a'),(2,iI b'),(3,iI r.lim),(8,.lit (.bool wb)),(9,.lit (.bool wp)),(10,iI (b' - a' : Nat)),(35,z)] [(100000,dC r.d1 tl)]) ?_ ?_
   ·cases wb with
    | true =>
     obtain ⟨e1,e2⟩:= hb2 rfl
     simp only [go_sem,Bool.not_true,e1,e2]
     exact ⟨_,rfl⟩
    | false =>
     obtain ⟨e1,e2⟩:= hb1 rfl
     have hC:= C_breakPatterns (cap:= cap) (d:= x) ht (show a' + 12 < b' by omega) (by omega) (by omega)
     rw [hx,← e1] at hC
     simp only [go_sem,Bool.not_false]
     refine callD_of ht rfl hC ?_
     simp only [go_sem,iwn (lim - 1) (by omega : (lim : Int) - 1 = ((lim - 1 : Nat) : Int)) (by omega)]
     refine ⟨.dead,?_⟩
     rw [e2]
     exact mkE_ext _ fun k => by by_cases h : k = 35 <;> simp [getA,h]
   ·rintro _ ⟨z,rfl⟩
    have hC:= C_choosePivot (cap:= cap) (d:= r.d1) ht (show a' + 12 < b' by omega) (by omega) (by omega)
    rw [s1,hx,← hcp] at hC
    simp only [go_sem]
    refine callD_of ht rfl hC ?_
    simp only [go_sem,hintI_two]
    refine condX_cut (fun E' => ∃ z,E' = mkE [(0,dS d.size cap),(1,iI a'),(2,iI b'),(3,iI r.lim),(8,.lit (.bool wb)),(9,.lit (.bool wp)),(10,iI (b' - a' : Nat)),(11,iI r.pivot),(12,.lit (.int .i64 (hintI r.hint))),(50,z)] [(100000,dC r.d2 tl)]) ?_ ?_
    ·by_cases hh : r.c.2 = .decreasing
     ·obtain ⟨e1,e2,e3⟩:= hdec hh
      have hC:= C_reverse (cap:= cap) (d:= r.d1) ht (show a' < b' by omega) (by omega) (by omega)
      rw [s1,hx,← e1] at hC
      simp only [go_sem,hh,decide_true]
      refine callD_of ht rfl hC ?_
      simp only [go_sem,iwn (b' - 1) (by omega : (b' : Int) - 1 = ((b' - 1 : Nat) : Int)) (by omega),iwn (r.c.1 - a') (by omega : (r.c.1 : Int) - (a' : Int) = ((r.c.1 - a' : Nat) : Int)) (by omega),
       iwn (b' - 1 - (r.c.1 - a')) (by omega : ((b' - 1 : Nat) : Int) - ((r.c.1 - a' : Nat) : Int) = ((b' - 1 - (r.c.1 - a') : Nat) : Int)) (by omega)]
      refine ⟨.dead,?_⟩
      rw [e2,e3]
      exact mkE_ext _ fun k => by by_cases h : k = 50 <;> simp [getA,h,hintI]
     ·obtain ⟨e1,e2,e3⟩:= hnot hh
      simp only [go_sem,hh,decide_false,e1,e2,e3]
      exact ⟨_,rfl⟩
    ·rintro _ ⟨z,rfl⟩
     refine aw_cut (fun E' => r.pi.2 = false ∧ ∃ z1 z2,E' = mkE [(0,dS d.size cap),(1,iI a'),(2,iI b'),(3,iI r.lim),(8,.lit (.bool wb)),(9,.lit (.bool wp)),(10,iI (b' - a' : Nat)),(11,iI r.pivot),(68,z1),(72,z2)] [(100000,dC r.pi.1 tl)]) ?_ ?_
     ·have no : r.pi = (r.d2,false) → ∀ t : AV,(r.pi.2 = false ∧ ∃ z1 z2,mkE [(0,dS d.size cap),(1,iI a'),(2,iI b'),(3,iI r.lim),(8,.lit (.bool wb)),(9,.lit (.bool wp)),(10,iI (b' - a' : Nat)),(11,iI r.pivot),(68,t)] [(100000,dC r.d2 tl)] =
        mkE [(0,dS d.size cap),(1,iI a'),(2,iI b'),(3,iI r.lim),(8,.lit (.bool wb)),(9,.lit (.bool wp)),(10,iI (b' - a' : Nat)),(11,iI r.pivot),(68,z1),(72,z2)] [(100000,dC r.pi.1 tl)]):= by
       intro e t
       rw [e]
       refine ⟨rfl,t,.dead,mkE_ext _ fun k => ?_⟩
       by_cases h : k = 72 <;> simp [getA,h]
      cases wb with
      | false =>
       have e:= no (hpn rfl)
       simp only [go_sem]
       exact e _
      | true =>
       cases wp with
       | false =>
        have e:= no (hpn rfl)
        simp only [go_sem]
        exact e _
       | true =>
        by_cases hi : r.hint = .increasing
        ·have e:= hpy (by simp [hi])
         have hC:= C_partialIns (cap:= cap) (d:= r.d2) ht (show a' < b' by omega) (by omega) (by omega)
         rw [s2,hx,← e] at hC
         simp only [go_sem,hintI_one,hi,decide_true]
         refine callD_of ht rfl hC ?_
         cases h2 : r.pi.2 with
         | true =>
          have e2:= hD h2
          rw [heq] at e2
          simp only [go_sem,endM_n,endM_r,e2,retC_dC ht,and_self]
         | false =>
          simp only [go_sem,true_and]
          refine ⟨.dead,.lit (.bool false),mkE_ext _ fun k => ?_⟩
          by_cases h : k = 68 <;> simp [getA,h]
        ·have e:= no (hpn (by simp [hi]))
         simp only [go_sem,hintI_one,hi,decide_false]
         exact e _
     ·rintro _ ⟨hp2,z1,z2,rfl⟩
      have hz : r.pi.1.size = d.size:= by rw [s3,hx]
      have hbz : b' ≤ r.pi.1.size:= by omega
      have wE : (((b' - a' : Nat) : Int)).tdiv 8 = (((b' - a') / 8 : Nat) : Int):= by
       rw [Int.tdiv_eq_ediv_of_nonneg (by omega)]
       omega
      refine aw_cut (fun E' => (decide (a' > 0) && !ltInt r.pi.1[a' - 1]! r.pi.1[r.pivot]!) = false ∧ ∃ z,E' = mkE [(0,dS d.size cap),(1,iI a'),(2,iI b'),(3,iI r.lim),(8,.lit (.bool wb)),(9,.lit (.bool wp)),(10,iI (b' - a' : Nat)),(11,iI r.pivot),(87,z)] [(100000,dC r.pi.1 tl)]) ?_ ?_
      ·by_cases ha : 0 < a'
       ·have f3 : ((0 : Int) < (a' : Int)) = True:= eq_true (by omega)
        have wa:= iwn (a' - 1) (by omega : (a' : Int) - 1 = ((a' - 1 : Nat) : Int)) (by omega)
        have g1:= dC_ld tl (show a' - 1 < r.pi.1.size by omega)
        have g2:= dC_ld tl (show r.pivot < r.pi.1.size by omega)
        have b1 : ((a' - 1 : Nat) : Int) < (d.size : Int):= by omega
        have b2 : (r.pivot : Int) < (d.size : Int):= by omega
        simp only [go_sem,f3,decide_true,wa,g1,g2,b1,b2,Int.natCast_nonneg,Int.toNat_natCast,Nat.zero_add,Nat.mul_one]
        refine callX_of (C_Less r.pi.1[a' - 1]! r.pi.1[r.pivot]!) ?_
        cases hl : ltInt r.pi.1[a' - 1]! r.pi.1[r.pivot]! with
        | true =>
         simp only [go_sem,Bool.not_true,Bool.and_false,true_and]
         exact ⟨_,rfl⟩
        | false =>
         obtain ⟨h3,h4,hs4,hB4,_⟩:= round_eq (mid:= (partitionEqual ltInt r.pi.1 a' b' r.pivot).1) (d4:= (partitionEqual ltInt r.pi.1 a' b' r.pivot).2) swo_ltInt (partitionEqual_holds _) ha hpv.1 hpv.2 hbz B3 hl rfl
         have e:= hE hp2 (by simp [hl,ha]) ⟨h3,h4⟩
         have hC:= C_partitionEqual (cap:= cap) (d:= r.pi.1) ht hpv.1 hpv.2 (by omega) hbz (by omega)
         rw [hz] at hC hs4
         rw [heq] at e
         generalize partitionEqual ltInt r.pi.1 a' b' r.pivot = q at h3 h4 hs4 hB4 e hC
         simp only [go_sem,Bool.not_false]
         refine callD_of ht rfl hC ?_
         simp only [go_sem]
         exact ⟨m - 1,by omega,q.1,b',r.lim,wb,wp,q.2,h4,hb',by omega,by omega,by omega,hs4,hB4,e.symm,rfl⟩
       ·have f3 : ((0 : Int) < (a' : Int)) = False:= eq_false (by omega)
        simp only [go_sem,f3,decide_false,show decide (a' > 0) = false by simp; omega,Bool.false_and,true_and]
        exact ⟨_,rfl⟩
      ·rintro _ ⟨ht2,z,rfl⟩
       obtain ⟨h3,h4,hs4,hB4,hB5,hLL,hRR⟩:= round_part (mid:= (partition ltInt r.pi.1 a' b' r.pivot).1) (ap:= (partition ltInt r.pi.1 a' b' r.pivot).2.1) (d4:= (partition ltInt r.pi.1 a' b' r.pivot).2.2) swo_ltInt (partition_holds _) hpv.1 hpv.2 hbz B3 rfl
       have eL:= hL hp2 ht2 ⟨h3,h4⟩
       have eR:= hR hp2 ht2 ⟨h3,h4⟩
       have hC:= C_partition (cap:= cap) (d:= r.pi.1) ht hpv.1 hpv.2 (by omega) hbz (by omega)
       rw [hz] at hC hs4
       rw [heq] at eL eR
       generalize partition ltInt r.pi.1 a' b' r.pivot = q at h3 h4 hs4 hB4 hB5 hLL hRR eL eR hC
       have wx:= iwn (q.1 - a') (by omega : (q.1 : Int) - (a' : Int) = ((q.1 - a' : Nat) : Int)) (by omega)
       have wy:= iwn (b' - q.1) (by omega : (b' : Int) - (q.1 : Int) = ((b' - q.1 : Nat) : Int)) (by omega)
       have w8:= iwn ((b' - a') / 8) rfl (by omega)
       have wp1:= iwn (q.1 + 1) (by omega : (q.1 : Int) + 1 = ((q.1 + 1 : Nat) : Int)) (by omega)
       simp only [go_sem]
       refine callD_of ht rfl hC ?_
       by_cases hlr : q.1 - a' < b' - q.1
       ·have f4 : (((q.1 - a' : Nat) : Int) < ((b' - q.1 : Nat) : Int)) = True:= eq_true (by omega)
        have hI:= ih q.2.2 a' q.1 r.lim (by omega) h3 (by omega) (by omega) (by omega) hB4
        rw [hs4] at hI
        have hp:= pdq_sorts ltInt swo_ltInt q.2.2 a' q.1 r.lim true true h3 (by omega) hB4
        obtain ⟨hB6,_⟩:= hLL _ hp.1 hp.2
        have e:= eL hlr
        have e8 : decide ((((b' - a') / 8 : Nat) : Int) ≤ ((q.1 - a' : Nat) : Int)) = decide (q.1 - a' ≥ (b' - a') / 8):= decide_eq_decide.2 (by omega)
        simp only [go_sem,wx,wy,wE,w8,f4,decide_true,e8,show ((8 : Int) == 0) = false from rfl]
        refine callD_of ht rfl hI ?_
        simp only [go_sem,wp1]
        exact ⟨m - 1,by omega,q.1 + 1,b',r.lim,_,q.2.1,_,by omega,hb',by omega,by omega,by omega,by rw [hp.1.1,hs4],hB6,e.symm,rfl⟩
       ·have f4 : (((q.1 - a' : Nat) : Int) < ((b' - q.1 : Nat) : Int)) = False:= eq_false (by omega)
        have hI:= ih q.2.2 (q.1 + 1) b' r.lim (by omega) (by omega) (by omega) (by omega) (by omega) hB5
        rw [hs4] at hI
        have hp:= pdq_sorts ltInt swo_ltInt q.2.2 (q.1 + 1) b' r.lim true true (by omega) (by omega) hB5
        obtain ⟨hB6,_⟩:= hRR _ hp.1 hp.2
        have e:= eR hlr
        have e8 : decide ((((b' - a') / 8 : Nat) : Int) ≤ ((b' - q.1 : Nat) : Int)) = decide (b' - q.1 ≥ (b' - a') / 8):= decide_eq_decide.2 (by omega)
        simp only [go_sem,wx,wy,wE,w8,f4,decide_false,e8,wp1,show ((8 : Int) == 0) = false from rfl]
        refine callD_of ht rfl hI ?_
        simp only [go_sem]
        exact ⟨m - 1,by omega,a',q.1,r.lim,_,q.2.1,_,h3,by omega,by omega,by omega,by omega,by rw [hp.1.1,hs4],hB6,e.symm,rfl⟩
theorem C_Sort {d : Array Int} {cap : Nat} {tl : List AV} (ht : Tl tl) (hd : d.size ≤ 255) :
  AM Tryz.prog f_q20 [dS d.size cap] [(100000,dC d tl)] (.tup []) [(100000,dC (sort ltInt d) tl)]:= by
 refine am_q20 ?_ (by simp) (Nat.le_add_left 1 _)
 have wu : IntKind.u64.wrap (d.size : Int) = (d.size : Int):= by rw [IntKind.wrap_u64]; omega
 have hC:= C_pdq ht cap (d.size + 1) d 0 d.size (bitsLen d.size) (by omega) (Nat.zero_le _) (Nat.le_refl _) hd (bitsLen_le8 (by omega)) (Or.inl rfl)
 simp only [go_sem,env0M_mk,c_q20,List.map_cons,List.map_nil,wu]
 refine callX_of (C_Len (n:= d.size) (by omega)) ?_
 simp only [go_sem]
 refine callD_of ht rfl hC ?_
 simp only [go_sem,endM_n,endM_r]
 exact retC_dC ht
theorem C_SortL {l : List Int} {cap : Nat} {tl : List AV} (ht : Tl tl) (hd : l.length ≤ 255) :
  AM Tryz.prog f_q20 [dS l.length cap] [(100000,l.map aI ++ tl)] (.tup []) [(100000,(l.mergeSort (fun x y => decide (x ≤ y))).map aI ++ tl)]:= by
 have h:= C_Sort (d:= l.toArray) (cap:= cap) ht (by simpa using hd)
 rw [show l.toArray.size = l.length by simp] at h
 rw [show dC l.toArray tl = l.map aI ++ tl by simp [dC],show dC (sort ltInt l.toArray) tl = (l.mergeSort (fun x y => decide (x ≤ y))).map aI ++ tl by rw [dC,sortInt l]] at h
 exact h
end Go.Proofs.YtjceingdmfogeaaGreatDoor.VL
end

section
set_option maxHeartbeats 4000000
namespace Go.Proofs.YtjceingdmfogeaaGreatDoor.VL
open Go.RowKit Go.Proofs Go.Sort
def dd : List Int → List Int
 | [] => []
 | [a] => [a]
 | a :: b :: t => if a = b then dd (b :: t) else a :: dd (b :: t)
theorem dd_snoc (b c : Int) : ∀ l : List Int,dd (l ++ [b,c]) = if b = c then dd (l ++ [b]) else dd (l ++ [b]) ++ [c]
 | [] => by
  simp only [List.nil_append,dd]
  split
  ·rename_i h; rw [h]
  ·rfl
 | [a] => by
  simp only [List.cons_append,List.nil_append,dd]
  by_cases h : b = c <;> by_cases h2 : a = b <;> simp [h,h2]
 | a :: a' :: l => by
  have ih:= dd_snoc b c (a' :: l)
  simp only [List.cons_append] at ih ⊢
  simp only [dd]
  by_cases h2 : a = a'
  ·simp only [if_pos h2]; exact ih
  ·simp only [if_neg h2]
   rw [ih]
   by_cases h : b = c
   ·simp only [if_pos h]
   ·simp only [if_neg h]; rfl
theorem take_succ_get {x : Array Int} {j : Nat} (h : j < x.size) : x.toList.take (j + 1) = x.toList.take j ++ [x[j]!]:= by
 rw [List.take_add_one]
 simp [h]
theorem dd_take {x : Array Int} {j : Nat} (h0 : 1 ≤ j) (h : j < x.size) : dd (x.toList.take (j + 1)) = if x[j - 1]! = x[j]! then dd (x.toList.take j) else dd (x.toList.take j) ++ [x[j]!]:= by
 obtain ⟨i,rfl⟩ : ∃ i,j = i + 1:= ⟨j - 1,by omega⟩
 rw [take_succ_get h,take_succ_get (show i < x.size by omega),List.append_assoc]
 exact dd_snoc _ _ _
structure CI (o : Array Int) (j k : Nat) (x : Array Int) : Prop where
 size : x.size = o.size
 lt : k < j
 le : j ≤ o.size
 pre : x.toList.take k = dd (o.toList.take j)
 post : ∀ i,k ≤ i → x[i]! = o[i]!
theorem set_get_ne {x : Array Int} {k i : Nat} (v : Int) (h : k ≠ i) : (x.setIfInBounds k v)[i]! = x[i]!:= by
 rw [Array.getElem!_eq_getD,Array.getElem!_eq_getD,Array.getD_eq_getD_getElem?,Array.getD_eq_getD_getElem?,Array.getElem?_setIfInBounds_ne h]
theorem set_get_self {x : Array Int} {k : Nat} (v : Int) (h : k < x.size) : (x.setIfInBounds k v)[k]! = v:= by
 rw [Array.getElem!_eq_getD,Array.getD_eq_getD_getElem?,Array.getElem?_setIfInBounds_self_of_lt h]
 rfl
theorem CI.step_eq {o x : Array Int} {j k : Nat} (h : CI o j k x) (hj : j < o.size) (he : x[j]! = x[j - 1]!) : CI o (j + 1) k x:= by
 have hl:= h.lt
 refine ⟨h.size,by omega,hj,?_,h.post⟩
 rw [h.post j (by omega),h.post (j - 1) (by omega)] at he
 rw [h.pre,dd_take (by omega) hj,if_pos he.symm]
theorem CI.step_ne {o x : Array Int} {j k : Nat} (h : CI o j k x) (hj : j < o.size) (he : x[j]! ≠ x[j - 1]!) : CI o (j + 1) (k + 1) (x.setIfInBounds k x[j]!):= by
 have hl:= h.lt
 have hs:= h.size
 refine ⟨by rw [Array.size_setIfInBounds,h.size],by omega,hj,?_,fun i hi => ?_⟩
 ·rw [h.post j (by omega),h.post (j - 1) (by omega)] at he
  rw [dd_take (by omega) hj,if_neg (fun e => he e.symm),← h.pre,take_succ_get (by rw [Array.size_setIfInBounds]; omega),set_get_self _ (by omega),h.post j (by omega)]
  congr 1
  rw [Array.toList_setIfInBounds,List.take_set,List.set_eq_of_length_le (by simp; omega)]
 ·rw [set_get_ne _ (by omega)]
  exact h.post i (by omega)
theorem dd_len : ∀ l : List Int,(dd l).length ≤ l.length
 | [] => Nat.le_refl _
 | [a] => Nat.le_refl _
 | a :: b :: t => by
  have:= dd_len (b :: t)
  simp only [dd]
  split <;> simp at this ⊢ <;> omega
theorem aw_loopF {P : Program} {a : ACode} {kl dl kb : List Nat} {i : Nat} {E : Env} {Q : AExit → Env → Prop} (I : Nat → Env → Prop) (n : Nat) (F : Env → Prop) (h0 : I n ((E.dropS kl).freshL dl))
  (h : ∀ m E',I m E' → aw P a E' (thenQ (fun E'' => ∃ k,k < m ∧ I k ((E''.dropS kl).freshL dl)) (fun ex E'' => ex = .exit i ∧ F (E''.dropS kb)))) (hF : ∀ E',F E' → Q .normal E') : aw P (.loop a kl dl) E (blockQ i kb Q) :=
 aw_mono _ (Q:= fun ex E'' => ex = .exit i ∧ F (E''.dropS kb)) (fun ex E'' h => by
  obtain ⟨rfl,h⟩:= h
  show if i = i then _ else _
  rw [if_pos rfl]
  exact hF _ h) (aw_loop I n h0 h)
theorem C_Compact {d : Array Int} {cap : Nat} {tl : List AV} (ht : Tl tl) (hc : d.size ≤ cap) (hd : d.size ≤ 255) :
  AM Tryz.prog f_q21 [dS d.size cap] [(100000,dC d tl)] (dS (dd d.toList).length cap)
   [(100000,(dd d.toList).map aI ++ (List.replicate (d.size - (dd d.toList).length) (aI 0) ++ tl))]:= by
 refine am_q21 ?_ (by simp) (Nat.le_add_left 1 _)
 simp only [go_sem,env0M_mk,c_q21,List.map_cons,List.map_nil]
 have whole : dd d.toList = d.toList → retC (mkE [(2,dS d.size cap)] [(100000,dC d tl)]) [100000] = some [(100000,(dd d.toList).map aI ++ (List.replicate (d.size - (dd d.toList).length) (aI 0) ++ tl))]:= by
  intro e
  rw [retC_dC ht,e]
  simp [dC]
 by_cases h2 : d.size < 2
 ·have f1 : ((d.size : Int) < 2) = True:= eq_true (by omega)
  have e : dd d.toList = d.toList:= by
   match hq : d.toList with
   | [] => rfl
   | [a] => rfl
   | a :: b :: t => have:= congrArg List.length hq; simp at this; omega
  simp only [go_sem,f1,decide_true]
  refine shiftX_refl ?_
  simp only [go_sem,endM_n,endM_r]
  refine ⟨?_,whole e⟩
  rw [e]
  simp
  done
 have f1 : ((d.size : Int) < 2) = False:= eq_false (by omega)
 simp only [go_sem,f1,decide_false]
 refine aw_loop (fun m E => ∃ i,1 ≤ i ∧ i ≤ d.size ∧ d.size - i ≤ m ∧ dd (d.toList.take i) = d.toList.take i ∧ E = mkE [(0,dS d.size cap),(3,iI i)] [(100000,dC d tl)]) d.size ?_ ?_
 ·refine ⟨1,Nat.le_refl _,by omega,by omega,?_,by simp only [go_sem,Int.natCast_one]⟩
  match hq : d.toList with
  | [] => rfl
  | a :: t => rfl
 ·rintro m _ ⟨i,h1,hi,hm,hdd,rfl⟩
  by_cases hin : i < d.size
  ·have f2 : ((i : Int) < (d.size : Int)) = True:= eq_true (by omega)
   have w1:= iwn (i - 1) (by omega : (i : Int) - 1 = ((i - 1 : Nat) : Int)) (by omega)
   have w2:= iwn (i + 1) (by omega : (i : Int) + 1 = ((i + 1 : Nat) : Int)) (by omega)
   have b1 : ((i - 1 : Nat) : Int) < (d.size : Int):= by omega
   have g1:= dC_ld tl hin
   have g2:= dC_ld tl (show i - 1 < d.size by omega)
   by_cases heq : d[i]! = d[i - 1]!
   ·have f3 : (d[i]! == d[i - 1]!) = true:= by simp [heq]
    have hsl : 0 ≤ (i : Int) ∧ (i : Int) ≤ (d.size : Int) ∧ (d.size : Int) ≤ (d.size : Int) ∧ ((i : Int) < cap ∨ (i : Int) = 0) ∧ d.size ≤ cap:= by omega
    have hCI : CI d (i + 1) i d:= ⟨rfl,by omega,by omega,by rw [dd_take h1 hin,if_pos heq.symm,hdd],fun _ _ => rfl⟩
    simp only [go_sem,f2,decide_true,w1,b1,g1,g2,f3,Int.natCast_nonneg,Int.toNat_natCast,Nat.zero_add,Nat.mul_one,avSlM_some 1 100000 0 d.size cap false (i : Int) (d.size : Int) hsl]
    refine aw_loopF (fun m' E => ∃ (j k : Nat) (x : Array Int),CI d (i + j) k x ∧ d.size - (i + j) ≤ m' ∧ 1 ≤ j ∧ i ≤ k ∧ E = mkE [(0,dS d.size cap),(3,iI k),(4,.ml 100000 i (d.size - i) (cap - i) false 1),(5,iI j)] [(100000,dC x tl)]) d.size
     (fun E' => ∃ (k : Nat) (x : Array Int),i ≤ k ∧ CI d d.size k x ∧ E' = mkE [(0,dS d.size cap),(3,iI k)] [(100000,dC x tl)]) ?_ ?_ ?_
    ·exact ⟨1,i,d,hCI,by omega,Nat.le_refl _,Nat.le_refl _,by simp only [go_sem,Int.natCast_one]⟩
    ·rintro m' _ ⟨j,k,x,hx,hm',hj1,hik,rfl⟩
     have hle:= hx.le
     have hlt:= hx.lt
     have hsz:= hx.size
     by_cases hjn : i + j < d.size
     ·have f4 : ((j : Int) < ((d.size - i : Nat) : Int)) = True:= eq_true (by omega)
      have w3:= iwn (j - 1) (by omega : (j : Int) - 1 = ((j - 1 : Nat) : Int)) (by omega)
      have w4:= iwn (j + 1) (by omega : (j : Int) + 1 = ((j + 1 : Nat) : Int)) (by omega)
      have w5:= iwn (k + 1) (by omega : (k : Int) + 1 = ((k + 1 : Nat) : Int)) (by omega)
      have b2 : ((j - 1 : Nat) : Int) < ((d.size - i : Nat) : Int):= by omega
      have b3 : (k : Int) < (d.size : Int):= by omega
      have g3:= dC_ld tl (show i + j < x.size by omega)
      have g4:= dC_ld tl (show i + (j - 1) < x.size by omega)
      have l1 : k + 1 ≤ (dC x tl).length:= by rw [dC_len]; omega
      have s1:= dC_set tl (show k < x.size by omega) x[i + j]!
      have e1 : i + (j - 1) = i + j - 1:= by omega
      simp only [go_sem,f4,decide_true,w3,b2,g3,g4,Int.natCast_nonneg,Int.toNat_natCast,Nat.zero_add,Nat.mul_one]
      by_cases he : x[i + j]! = x[i + (j - 1)]!
      ·have f5 : (x[i + j]! != x[i + (j - 1)]!) = false:= by simp [he]
       simp only [go_sem,f5,w4]
       exact ⟨m' - 1,by omega,j + 1,k,x,hx.step_eq hjn (by rw [he,e1]),by omega,by omega,hik,rfl⟩
      ·have f5 : (x[i + j]! != x[i + (j - 1)]!) = true:= by simp [he]
       simp only [go_sem,f5,f4,decide_true,w4,w5,g3,l1,s1,b3,Int.natCast_nonneg,Int.toNat_natCast,Nat.zero_add,Nat.mul_one]
       exact ⟨m' - 1,by omega,j + 1,k + 1,_,hx.step_ne hjn (by rw [← e1]; exact he),by omega,by omega,by omega,rfl⟩
     ·have f4 : ((j : Int) < ((d.size - i : Nat) : Int)) = False:= eq_false (by omega)
      simp only [go_sem,f4,decide_false]
      obtain rfl : j = d.size - i:= by omega
      rw [show i + (d.size - i) = d.size by omega] at hx
      exact ⟨k,x,hik,hx,rfl⟩
    ·rintro _ ⟨k,x,hik,hx,rfl⟩
     have hlt:= hx.lt
     have hsz:= hx.size
     have hlen : (dd d.toList).length = k:= by
      have:= congrArg List.length hx.pre
      rw [List.take_of_length_le (show d.toList.length ≤ d.size by simp)] at this
      rw [← this,List.length_take,Array.length_toList]
      omega
     have hpre : x.toList.take k = dd d.toList:= by
      rw [hx.pre,List.take_of_length_le (show d.toList.length ≤ d.size by simp)]
     have hce : (dC x tl).take k ++ (List.replicate (d.size - k) [AV.lit (.int .u32 0)]).flatten ++ (dC x tl).drop (k + (d.size - k)) = (dd d.toList).map aI ++ (List.replicate (d.size - k) (aI 0) ++ tl):= by
      have e1 : (dC x tl).take k = (dd d.toList).map aI:= by
       rw [dC,List.take_append_of_le_length (by simp; omega),← List.map_take,hpre]
      have e2 : (dC x tl).drop (k + (d.size - k)) = tl:= by
       rw [dC]
       exact List.drop_left' (by simp; omega)
      have e3 : ∀ n : Nat,(List.replicate n [AV.lit (.int .u32 0)]).flatten = List.replicate n (aI 0):= by
       intro n
       induction n with
       | zero => rfl
       | succ n ih => rw [List.replicate_succ,List.flatten_cons,ih]; rfl
      rw [e1,e2,e3,List.append_assoc]
     have hs1 : 0 ≤ (k : Int) ∧ (k : Int) ≤ (d.size : Int) ∧ (d.size : Int) ≤ (d.size : Int) ∧ ((k : Int) < cap ∨ (k : Int) = 0) ∧ d.size ≤ cap:= by omega
     have hs2 : 0 ≤ ((0 : Nat) : Int) ∧ ((0 : Nat) : Int) ≤ (k : Int) ∧ (k : Int) ≤ (d.size : Int) ∧ (((0 : Nat) : Int) < cap ∨ ((0 : Nat) : Int) = 0) ∧ d.size ≤ cap:= by omega
     have hcl : (1 : Nat) = [AV.lit (.int .u32 0)].length ∧ k + (d.size - k) * 1 ≤ (dC x tl).length ∧ oneL [AV.lit (.int .u32 0)] = true:= by
      refine ⟨rfl,?_,rfl⟩
      rw [dC_len]
      omega
     simp only [go_sem,avSlM_some 1 100000 0 d.size cap false (k : Int) (d.size : Int) hs1,avSlM_some 1 100000 0 d.size cap false ((0 : Nat) : Int) (k : Int) hs2,Int.toNat_natCast,Nat.zero_add,Nat.mul_one,Int.toNat_zero,Nat.zero_mul,Nat.sub_zero]
     simp only [go_sem,clrM_some (c:= [(100000,dC x tl)]) [AV.lit (.int .u32 0)] 100000 k (d.size - k) 1 (dC x tl) hcl,hce,avSlM_some 1 100000 0 d.size cap false ((0 : Nat) : Int) (k : Int) hs2,Int.toNat_natCast,Nat.zero_add,Nat.mul_one,Int.toNat_zero,Nat.zero_mul,Nat.sub_zero,endM_n,endM_r,hlen,true_and]
     have hret:= retC_dC (s:= [(2,dS k cap)]) (d:= (dd d.toList).toArray) (tl:= List.replicate (d.size - k) (aI 0) ++ tl) (by
      intro y hy
      rcases List.mem_append.1 hy with hy | hy
      ·exact .inr ⟨_,List.eq_of_mem_replicate hy⟩
      ·exact ht y hy)
     exact hret
   ·have f3 : (d[i]! == d[i - 1]!) = false:= by simp [heq]
    simp only [go_sem,f2,decide_true,w1,b1,g1,g2,f3,Int.natCast_nonneg,Int.toNat_natCast,Nat.zero_add,Nat.mul_one,w2]
    exact ⟨m - 1,by omega,i + 1,by omega,by omega,by omega,by rw [dd_take h1 hin,if_neg (fun e => heq e.symm),hdd,take_succ_get hin],rfl⟩
  ·have f2 : ((i : Int) < (d.size : Int)) = False:= eq_false (by omega)
   have e : dd d.toList = d.toList:= by
    rw [List.take_of_length_le (by simp; omega)] at hdd
    exact hdd
   simp only [go_sem,f2,decide_false,endM_n,endM_r]
   refine ⟨?_,whole e⟩
   rw [e]
   simp
   done
end Go.Proofs.YtjceingdmfogeaaGreatDoor.VL
end

section
set_option maxHeartbeats 4000000
namespace Go.Proofs.YtjceingdmfogeaaGreatDoor.VL
open Go.RowKit Go.Proofs Go.Sort
theorem AC_hdr {P : Program} {f : FuncId} {t : Tok} {e : Nat} {r : AV} (h : ∀ A cap,AC P f [.lit (.slice A 0 cap)] r) : AC P f [.sl t e []] r:= by
 refine ⟨(h none 0).res,(h none 0).enters,fun R cargs hR hh hg hr => ?_⟩
 simp only [RepL,Rep] at hr
 obtain ⟨v,ws,rfl,⟨A,cap,vs,rfl,_⟩,rfl⟩:= hr
 exact (h A cap).calls R _ hR hh hg (by simp only [RepL,Rep]; exact ⟨_,_,rfl,rfl,rfl⟩)
theorem AC_weak {P : Program} {f : FuncId} {args : List AV} {r r' : AV} (h : AC P f args r) (hr : ∀ E v,Rep E r v → Rep E r' v) (hok : resOK r' = true:= by rfl) : AC P f args r' :=
 ⟨hok,h.enters,fun R cargs hR hh hg ha => (h.calls R cargs hR hh hg ha).mono fun e w' ⟨v,E',h1,h2,h3,h4,h5⟩ => ⟨v,E',h1,h2,hr _ _ h3,h4,h5⟩⟩
theorem rep_sl0 {E : RE} {t : Tok} {e e' : Nat} {v : Value} (h : Rep E (.sl t e []) v) : Rep E (.sl .none e' []) v:= by
 simp only [Rep] at h ⊢
 obtain ⟨A,cap,vs,rfl,h1,h2,h3,h4,_⟩:= h
 refine ⟨A,cap,vs,rfl,h1,h2,fun u hu => ?_,h4,fun h => absurd rfl h⟩
 have : vs = []:= by simpa [RepL] using h2
 rw [this] at hu
 simp at hu
theorem isNone_some (a : Addr) : (some a : Option Addr).isNone = false:= rfl
theorem isNone_none : (none : Option Addr).isNone = true:= rfl
theorem C_ins0 (t : Tok) (e : Nat) : AC Tryz.prog f_q84 [.sl t e [],iI 0,iI 0] (.tup []):= by
 refine ac_q84 ?_ (Nat.le_add_left 3 _)
 simp only [go_sem,c_q84,iw 1 (by decide) (by decide),Int.zero_add]
 refine aw_loop (fun m E => E = mkE [(0,.sl t e []),(1,iI 0),(2,iI 0),(6,iI 1)] []) 0 (by simp only [go_sem]) ?_
 rintro m _ rfl
 simp only [go_sem,show ((1 : Int) < 0) = False from by simp,decide_false]
theorem C_pdq0 (t : Tok) (e : Nat) : AC Tryz.prog f_q50 [.sl t e [],iI 0,iI 0,iI 0] (.tup []):= by
 refine ac_q50 ?_ (Nat.le_add_left 4 _)
 simp only [go_sem,c_q50]
 refine aw_loop (fun m E => E = mkE [(0,.sl t e []),(1,iI 0),(2,iI 0),(3,iI 0),(8,.lit (.bool true)),(9,.lit (.bool true))] []) 0 (by simp only [go_sem]) ?_
 rintro m _ rfl
 simp only [go_sem,Int.sub_self,iw 0 (by decide) (by decide),show ((0 : Int) ≤ 12) = True from by simp,decide_true]
 refine callX_of (C_ins0 _ _) ?_
 simp only [go_sem]
theorem C_Sort0 (t : Tok) (e : Nat) : AC Tryz.prog f_q20 [.sl t e []] (.tup []):= by
 refine ac_q20 ?_ (Nat.le_add_left 1 _)
 have wu : IntKind.u64.wrap ((0 : Nat) : Int) = ((0 : Nat) : Int):= by decide
 simp only [go_sem,c_q20,List.length_nil,wu]
 refine callX_of (C_Len (n:= 0) (by decide)) ?_
 simp only [go_sem,show bitsLen 0 = 0 from rfl,Int.natCast_zero]
 refine callX_of (C_pdq0 _ _) ?_
 simp only [go_sem]
theorem C_Compact0 (e : Nat) : AC Tryz.prog f_q21 [.sl .none e []] (.sl .none e []):= by
 refine ac_q21 ?_ (Nat.le_add_left 1 _)
 simp only [go_sem,c_q21,List.length_nil,show (((0 : Nat) : Int) < 2) = True from by simp,decide_true]
 refine shiftX_refl ?_
 simp only [go_sem]
def rise (l : List Int) : List Int:= dd (l.mergeSort (fun x y => decide (x ≤ y)))
theorem back_0 (s : List (Nat × AV)) (x y : List AV) : backC [(0,100000)] [(100000,y)] (mkE s [(0,x)]) = mkE s [(0,y)]:= by
 simp only [backC,mkE]
 congr 1
 funext c
 by_cases h2 : c = 0
 ·subst h2; rfl
 ·simp [lentAs,getC,h2]
theorem call0_of {P : Program} {dst : Option Nat} {os : List AOper} {s : List (Nat × AV)} {K : Env → Prop} {f : FuncId} {raw al : List AV} {args : Option (List AV)} {r : AV} {l : List Int} {tl y : List AV} (ht : Tl tl)
  (hl : mapO (lowerM [(0,100000)] (getC [(0,l.map aI ++ tl)]) 8) raw = some al) (h : AM P f al [(100000,l.map aI ++ tl)] r [(100000,y)])
  (hk : awX false P os ((mkE s [(0,y)]).putO dst (retag (dst.getD 0) (unlend [(0,100000)] r))) K) : callX false P dst os s [(0,l.map aI ++ tl)] K f raw args:= by
 refine callM_of [(0,100000)] rfl hl ?_ h ?_
 ·show mapO _ _ = _
  have:= close_dC l.toArray ht
  rw [show dC l.toArray tl = l.map aI ++ tl by simp [dC]] at this
  simp only [mapO_cons,mapO_nil,getC_cons,↓reduceIte,this,catO_some]
 ·rw [back_0]
  exact hk
theorem chunk_ints : ∀ (l : List Int),chunk false 1 l.length (l.map aI) = l.map aI
 | [] => rfl
 | a :: l => by
  simp only [List.length_cons,List.map_cons,chunk,List.take_succ_cons,List.take_zero,List.headD_cons,List.drop_succ_cons,List.drop_zero,chunk_ints l]
theorem cells_ints : ∀ (l : List Int),(l.map aI).flatMap cellsOf = l.map aI
 | [] => rfl
 | a :: l => by
  simp only [List.map_cons,List.flatMap_cons,cells_ints l]
  rfl
end Go.Proofs.YtjceingdmfogeaaGreatDoor.VL
end

section
namespace Go.Proofs.YtjceingdmfogeaaGreatDoor.VL
open Go.RowKit
mutual
/-- What bore the one mark bears the other one. -/
def relab (τ τ' : List Nat) : AV → AV
 | .sl t e rows => .sl (match t with
  | .own s => if s = τ then .own τ' else if s = τ' then .none else .own s
  | .fr s => if s = τ then .fr τ' else if s = τ' then .gone else .fr s
  | t => t) e rows
 | .mf s al => if s = τ then .mf τ' al else .mf s (al && decide (s ≠ τ'))
 | .agg cs => .agg (relabL τ τ' cs)
 | .tup cs => .tup (relabL τ τ' cs)
 | .clo f a b => .clo f (relabL τ τ' a) (relabL τ τ' b)
 | .ifc t x => .ifc t (relab τ τ' x)
 | x => x
def relabL (τ τ' : List Nat) : List AV → List AV
 | [] => []
 | x :: xs => relab τ τ' x :: relabL τ τ' xs
end
def RE.relab (E : RE) (τ τ' : List Nat) : RE:= { E with own:= fun g t => (t = τ' ∧ E.own g τ) ∨ (t ≠ τ ∧ t ≠ τ' ∧ E.own g t) }
def Env.relab (E : Env) (τ τ' : List Nat) : Env:= ⟨fun k => VL.relab τ τ' (E.s k),fun c => (E.c c).map (relabL τ τ')⟩
theorem RE.relab_closed (E : RE) (τ τ' : List Nat) : (E.relab τ τ').closed = E.closed:= rfl
theorem RE.relab_bor (E : RE) (τ τ' : List Nat) : (E.relab τ τ').bor = E.bor:= rfl
mutual
theorem rep_relab (τ τ' : List Nat) : ∀ {x : AV} {E : RE} {v : Value},Rep E x v → Rep (E.relab τ τ') (relab τ τ' x) v
 | .lit u,E,v,h => by simpa only [relab,Rep] using h
 | .agg cs,E,v,h => by
  simp only [relab,Rep] at h ⊢
  obtain ⟨vs,rfl,h⟩:= h
  exact ⟨vs,rfl,repL_relab τ τ' h⟩
 | .tup cs,E,v,h => by
  simp only [relab,Rep] at h ⊢
  obtain ⟨vs,rfl,h⟩:= h
  exact ⟨vs,rfl,repL_relab τ τ' h⟩
 | .sl .none e rows,E,v,h => by
  simp only [relab]
  simp only [Rep,RE.relab_closed] at h ⊢
  exact h
 | .sl .nil e rows,E,v,h => by
  simp only [relab]
  simp only [Rep,RE.relab_closed] at h ⊢
  exact h
 | .sl .bor e rows,E,v,h => by
  simp only [relab]
  simp only [Rep,RE.relab_closed] at h ⊢
  exact h
 | .sl .gone e rows,E,v,h => by
  simp only [relab]
  simp only [Rep,RE.relab_closed] at h ⊢
  exact h
 | .sl (.fr t) e rows,E,v,h => by
  simp only [relab]
  by_cases h1 : t = τ
  ·rw [if_pos h1]
   simp only [Rep,RE.relab_closed] at h ⊢
   obtain ⟨A,cap,vs,rfl,hcap,hr,he,h1',ht⟩:= h
   refine ⟨A,cap,vs,rfl,hcap,hr,he,h1',?_⟩
   rcases ht with ht | ⟨g,cur,ty,ha,hat,hh,hm,hc,ho,hs⟩
   ·exact .inl ht
   ·exact .inr ⟨g,cur,ty,ha,hat,hh,hm,hc,.inl ⟨rfl,h1 ▸ ho⟩,hs⟩
  ·rw [if_neg h1]
   by_cases h2 : t = τ'
   ·rw [if_pos h2]
    simp only [Rep,RE.relab_closed] at h ⊢
    obtain ⟨A,cap,vs,rfl,hcap,hr,he,h1',ht⟩:= h
    exact ⟨A,cap,vs,rfl,hcap,hr,he,h1',trivial⟩
   ·rw [if_neg h2]
    simp only [Rep,RE.relab_closed] at h ⊢
    obtain ⟨A,cap,vs,rfl,hcap,hr,he,h1',ht⟩:= h
    refine ⟨A,cap,vs,rfl,hcap,hr,he,h1',?_⟩
    rcases ht with ht | ⟨g,cur,ty,ha,hat,hh,hm,hc,ho,hs⟩
    ·exact .inl ht
    ·exact .inr ⟨g,cur,ty,ha,hat,hh,hm,hc,.inr ⟨h1,h2,ho⟩,hs⟩
 | .sl (.own t) e rows,E,v,h => by
  simp only [relab]
  by_cases h1 : t = τ
  ·rw [if_pos h1]
   simp only [Rep,RE.relab_closed] at h ⊢
   obtain ⟨A,cap,vs,rfl,hcap,hr,he,h1',ht⟩:= h
   refine ⟨A,cap,vs,rfl,hcap,hr,he,h1',?_⟩
   rcases ht with ht | ⟨g,cur,ty,ha,hat,hh,hm,hc,ho,hs⟩
   ·exact .inl ht
   ·exact .inr ⟨g,cur,ty,ha,hat,hh,hm,hc,.inl ⟨rfl,h1 ▸ ho⟩,hs⟩
  ·rw [if_neg h1]
   by_cases h2 : t = τ'
   ·rw [if_pos h2]
    simp only [Rep,RE.relab_closed] at h ⊢
    obtain ⟨A,cap,vs,rfl,hcap,hr,he,h1',ht⟩:= h
    refine ⟨A,cap,vs,rfl,hcap,hr,he,h1',fun hne => ?_⟩
    rcases ht with ⟨_,h0⟩ | ⟨g,cur,ty,ha,hat,_⟩
    ·exact absurd (List.eq_nil_of_length_eq_zero (by omega)) hne
    ·exact ⟨g,0,ha,hat⟩
   ·rw [if_neg h2]
    simp only [Rep,RE.relab_closed] at h ⊢
    obtain ⟨A,cap,vs,rfl,hcap,hr,he,h1',ht⟩:= h
    refine ⟨A,cap,vs,rfl,hcap,hr,he,h1',?_⟩
    rcases ht with ht | ⟨g,cur,ty,ha,hat,hh,hm,hc,ho,hs⟩
    ·exact .inl ht
    ·exact .inr ⟨g,cur,ty,ha,hat,hh,hm,hc,.inr ⟨h1,h2,ho⟩,hs⟩
 | .mf t al,E,v,h => by
  simp only [relab]
  by_cases h1 : t = τ
  ·rw [if_pos h1]
   simp only [Rep] at h ⊢
   obtain ⟨b,rfl,h⟩:= h
   refine ⟨b,rfl,fun e => ?_⟩
   obtain ⟨hh,ho,hs⟩:= h e
   exact ⟨hh,.inl ⟨rfl,h1 ▸ ho⟩,hs⟩
  ·rw [if_neg h1]
   simp only [Rep] at h ⊢
   obtain ⟨b,rfl,h⟩:= h
   refine ⟨b,rfl,fun e => ?_⟩
   simp only [Bool.and_eq_true,decide_eq_true_eq] at e
   obtain ⟨hh,ho,hs⟩:= h e.1
   exact ⟨hh,.inr ⟨h1,e.2,ho⟩,hs⟩
 | .mu t k vs,E,v,h => by
  simp only [relab]
  simp only [Rep,RE.relab_closed] at h ⊢
  exact h
 | .rp cs,E,v,h => by
  simp only [relab]
  simp only [Rep,RE.relab_closed] at h ⊢
  exact h
 | .bp cs,E,v,h => by
  simp only [relab]
  simp only [Rep,RE.relab_bor] at h ⊢
  exact h
 | .lp c o,E,v,h => by simp only [relab,Rep] at h ⊢; exact h
 | .ml c o n k g e,E,v,h => by simp only [relab,Rep] at h ⊢; exact h
 | .clo f a b,E,v,h => by
  simp only [relab,Rep] at h ⊢
  obtain ⟨fs,cs,rfl,h1,h2⟩:= h
  exact ⟨fs,cs,rfl,repL_relab τ τ' h1,repL_relab τ τ' h2⟩
 | .ifc t x,E,v,h => by
  simp only [relab,Rep] at h ⊢
  obtain ⟨u,rfl,h⟩:= h
  exact ⟨u,rfl,rep_relab τ τ' h⟩
 | .mp keys vals,E,v,h => by
  simp only [relab]
  simp only [Rep,RE.relab_closed] at h ⊢
  exact h
 | .gl i,E,v,h => by simp only [relab,Rep] at h ⊢; exact h
 | .gp g,E,v,h => by simpa only [relab,Rep] using h
 | .dead,E,v,h => by simp only [relab,Rep]
theorem repL_relab (τ τ' : List Nat) : ∀ {xs : List AV} {E : RE} {vs : List Value},RepL E xs vs → RepL (E.relab τ τ') (relabL τ τ' xs) vs
 | [],E,vs,h => by simpa only [relabL,RepL] using h
 | x :: xs,E,vs,h => by
  simp only [relabL,RepL] at h ⊢
  obtain ⟨v,ws,rfl,h1,h2⟩:= h
  exact ⟨v,ws,rfl,rep_relab τ τ' h1,repL_relab τ τ' h2⟩
end
section
variable {P : Program} {R : RE} {N : Nat} {env : Env} {a : Act} {E : RE}
theorem Inv.relab (h : Inv R N env a E) (τ τ' : List Nat) : Inv R N (env.relab τ τ') a (E.relab τ τ'):= by
 have own_of : ∀ {g t},(E.relab τ τ').own g t → ∃ s,E.own g s:= fun {g t} ho => ho.elim (fun h => ⟨_,h.2⟩) fun h => ⟨_,h.2.2⟩
 refine { h with ownlt:= fun g t ho => (own_of ho).elim fun s hs => h.ownlt g s hs,own1:= fun g t t' h1 h2 => ?_,locc:= fun c b hb => ?_,locd:= fun c cs hc => ?_,mlocc:= fun c b hb => let ⟨h1,h2,h3,h4,h5⟩:= h.mlocc c b hb; ⟨h1,h2,h3,fun t ht => (own_of ht).elim h4,h5⟩,slots:= fun k => rep_relab τ τ' (h.slots k) }
 ·rcases h1 with ⟨e1,o1⟩ | ⟨a1,b1,o1⟩ <;> rcases h2 with ⟨e2,o2⟩ | ⟨a2,b2,o2⟩
  ·rw [e1,e2]
  ·exact absurd (h.own1 g _ _ o2 o1) a2
  ·exact absurd (h.own1 g _ _ o1 o2) a1
  ·exact h.own1 g _ _ o1 o2
 ·obtain ⟨h1,h2,h3,cs,vals,ty,hcs,hh,hr,ho⟩:= h.locc c b hb
  exact ⟨h1,h2,fun t ht => (own_of ht).elim h3,relabL τ τ' cs,vals,ty,by simp [Env.relab,hcs],hh,repL_relab τ τ' hr,ho⟩
 ·obtain ⟨cs',hcs',_⟩:= Option.map_eq_some_iff.1 hc
  exact h.locd c cs' hcs'
end
theorem VS.relab {E : Env} (τ τ' : List Nat) : VS E fun E' => E' = E.relab τ τ':= fun R N a F hR hI => ⟨E.relab τ τ',F.relab τ τ',rfl,rfl,hI.relab τ τ'⟩
theorem VS.adoptM {E : Env} {p : Spot} {τ name : List Nat} (hp : E.at p = some (.mf τ true)) : VS E fun E' => E' = ((E.killn (· == name)).strip τ).set p (.mu name [] []):= by
 intro R N a F hR hI
 obtain ⟨v,hv,hset⟩:= hI.atSpot hp
 simp only [Rep] at hv
 obtain ⟨b,rfl,hb⟩:= hv
 obtain ⟨⟨ck,hh⟩,hown,hS⟩:= hb trivial
 have hI1:= (hI.unname (· == name)).unownT τ
 obtain ⟨hlt1,hlt2⟩:= hI.ownlt b τ hown
 obtain ⟨hI2,hx⟩:= hI1.takeName (τ:= name) (g:= b) (w':= F.w) (by simp [RE.unown,RE.unname]) hlt1 hlt2 hS (fun t ht => ht.2 (hI.own1 b t τ ht.1 hown)) (fun c hc => (hI.locc c b hc).2.2.1 τ hown)
  (fun t ht => by
   simp only [RE.unown,RE.unname] at ht
   split at ht
   ·cases ht
   ·exact (hI.mlocc t b ht).2.2.2.1 τ hown) (Nat.le_refl _) rfl rfl rfl (fun _ _ _ => rfl)
 refine ⟨_,_,?_,rfl,hset hI2 rfl (fun c i _ => rfl) ?_ ?_⟩
 ·rfl
 ·simp only [Rep]
  exact ⟨b,[],ck,[],by simp,rfl,hh,rfl,rfl,by simp [RepL]⟩
 ·cases p with
  | slot k => exact ⟨_,rfl⟩
  | cell c i =>
   simp only [Env.at] at hp ⊢
   obtain ⟨cs,hcs,hx⟩:= Option.bind_eq_some_iff.1 hp
   have hl : ∀ (q : List Nat → Bool) (l : List AV),(killnL q l).length = l.length:= by
    intro q l
    induction l with
    | nil => rfl
    | cons x l ih => simp [killnL,ih]
   have hl2 : ∀ (l : List AV),(stripL τ l).length = l.length:= by
    intro l
    induction l with
    | nil => rfl
    | cons x l ih => simp [stripL,ih]
   have hi : i < cs.length:= (List.getElem?_eq_some_iff.1 hx).1
   refine ⟨(stripL τ (killnL (· == name) cs))[i]'(by rw [hl2,hl]; exact hi),?_⟩
   simp only [Env.strip,Env.killn,hcs,Option.map_some,Option.bind_some]
   exact List.getElem?_eq_getElem _
theorem VS.freeze {E : Env} {p : Spot} {τ : List Nat} {e : Nat} {rows : List AV} (hp : E.at p = some (.sl (.fr τ) e rows)) : VS E fun E' => E' = (E.strip τ).set p (.sl .none e rows):= by
 intro R N a F hR hI
 obtain ⟨v,hv,hset⟩:= hI.atSpot hp
 simp only [Rep] at hv
 obtain ⟨A,cap,vs,rfl,hcap,hr,he,h1,ht⟩:= hv
 have hU:= hI.unownT τ
 have hz : ∃ z,(E.strip τ).at p = some z:= ⟨_,at_strip τ hp⟩
 rcases ht with ⟨h0,_⟩ | ⟨b,cur,ty,rfl,hat,hh,hm,hcs,hown,hS,hone⟩
 ·refine ⟨_,F.unown τ,rfl,rfl,hset hU rfl (fun c i _ => rfl) ?_ hz⟩
  simp only [Rep]
  exact ⟨A,cap,vs,rfl,hcap,hr,he,h1,fun hne => absurd h0 hne⟩
 ·have hnl : ∀ c,F.loc c ≠ some b:= fun c hc' => (hI.locc c b hc').2.2.1 τ hown
  have hno : ∀ t,¬ (F.unown τ).own b t:= fun t ht => ht.2 (hI.own1 b t τ ht.1 hown)
  have hnm : ∀ t,F.mloc t ≠ some b:= fun t ht => (hI.mlocc t b ht).2.2.2.1 τ hown
  obtain ⟨F',hF'⟩ : ∃ F' : RE,F' = { F.unown τ with S:= fun b' o => F.S b' o ∨ b' = b }:= ⟨_,rfl⟩
  have hx : Ext (F.unown τ) F':= by
   rw [hF']
   refine ⟨fun _ _ h => .inl h,fun _ h => h,fun _ _ _ _ h => h,fun _ _ _ _ h => h,fun c b' hc' => hc',fun k t hk => ⟨hk,rfl,fun o ho => ?_⟩,rfl,fun t b' hb => ⟨hb,rfl⟩⟩
   rcases ho with ho | ho
   ·exact ho
   ·exact absurd (ho ▸ hk) (hno t)
  have hxc : Ext F.closed F'.closed:= hx.closed
  have hI1 : Inv R N (E.strip τ) a F':= by
   have hw : F'.w = F.w:= by rw [hF']; rfl
   have hlo:= (hI.ownlt b τ hown)
   refine ⟨hU.defers,hU.Nlim,by rw [hF']; exact hU.lentl,hU.size,by rw [hF']; exact hU.B,by rw [hF']; exact hU.Bok,by rw [hw]; exact hI.below,hU.Mlt,fun k hk o hs => ?_,by rw [hF']; exact hU.par,by rw [hF']; exact hU.G,fun b' o hb' => ?_,fun b' o hs => ?_,by rw [hF']; exact hU.ownlt,by rw [hF']; exact hU.own1,fun c b' hb' => ?_,by rw [hF']; exact hU.locd,by rw [hF']; exact hU.loc1,fun t b' hb' => ?_,by rw [hF']; exact hU.mloc1,fun k => (hU.slots k).mono hx⟩
   ·rw [hF'] at hs
    rcases hs with hs | hs
    ·exact hI.MS k hk o hs
    ·subst hs
     have:= hI.Mlt k hk
     omega
   ·rw [hF',← hI.S0 b' o hb']
    constructor
    ·rintro (hs | hs)
     ·exact hs
     ·omega
    ·exact .inl
   ·rw [hF'] at hs
    rw [hw]
    rcases hs with hs | hs
    ·exact hI.Slt b' o hs
    ·rw [hs]; exact hlo.2
   ·have hb2 : (F.unown τ).loc c = some b':= by rw [hF'] at hb'; exact hb'
    obtain ⟨k1,k2,k3,cs,vals,ty',hcs',hh',hr',ho'⟩:= hU.locc c b' hb2
    refine ⟨k1,fun o hs => ?_,by rw [hF']; exact k3,cs,vals,ty',hcs',by rw [hw]; exact hh',hr'.mono hx,ho'⟩
    rw [hF'] at hs
    rcases hs with hs | hs
    ·exact k2 o hs
    ·exact hnl c (hs ▸ hb2)
   ·have hb2 : (F.unown τ).mloc t = some b':= by rw [hF'] at hb'; exact hb'
    obtain ⟨k1,k2,k3,k4,k5⟩:= hU.mlocc t b' hb2
    refine ⟨k1,by rw [hw]; exact k2,fun o hs => ?_,by rw [hF']; exact k4,by rw [hF']; exact k5⟩
    rw [hF'] at hs
    rcases hs with hs | hs
    ·exact k3 o hs
    ·exact hnm t (hs ▸ hb2)
  refine ⟨_,F',by rw [hF']; rfl,rfl,hset hI1 (by rw [hF']; rfl) (fun c i _ => by rw [hF']; rfl) ?_ hz⟩
  simp only [Rep]
  refine ⟨_,cap,vs,rfl,hcap,hr.mono hxc,he,h1,fun _ => ⟨b,0,rfl,fun j u hj => ⟨?_,?_⟩⟩⟩
  ·rw [hF']; exact .inr rfl
  ·rw [hF']; exact (hat j u hj).2
theorem at_forget {E : Env} {p : Spot} {x : AV} (n : Nat) (hpn : ∀ i,p ≠ .cell n i) (h : E.at p = some x) : (E.forget n).at p = some (kill n x):= by
 cases p with
 | slot k =>
  simp only [Env.at,Option.some.injEq] at h ⊢
  subst h
  rfl
 | cell c i =>
  have hcn : c ≠ n:= fun e => hpn i (by rw [e])
  simp only [Env.at] at h ⊢
  obtain ⟨cs,hcs,hx⟩:= Option.bind_eq_some_iff.1 h
  have e : ∀ l : List AV,killL n l = l.map (kill n):= by
   intro l
   induction l with
   | nil => rfl
   | cons y ys ih => simp [killL,ih]
  simp only [Env.forget,if_neg hcn,hcs,Option.map_some,Option.bind_some,e,List.getElem?_map,hx]
theorem VS.freezeM {E : Env} {p : Spot} {n o len cap e : Nat} {g : Bool} {cs l : List AV} (hp : E.at p = some (.ml n o len cap g e)) (hn : n < 100000) (hc : E.c n = some cs) (hq : o + len * e ≤ cs.length ∧ len ≤ cap ∧ (g = true ∨ e = 1)) (hl : mapO closeV ((cs.drop o).take (len * e)) = some l) (hpn : ∀ i,p ≠ .cell n i) :
  VS E fun E' => E' = (E.forget n).set p (.sl .none e (chunk g e len l)):= by
 intro R N a F hR hI
 obtain ⟨v,hv,hset⟩:= hI.atSpot hp
 simp only [Rep] at hv
 obtain ⟨b,hb,rfl⟩:= hv
 obtain ⟨h1,h2,h3,cs',vals,ty,hcs',hh,hr,ho⟩:= hI.locc n b hb
 rw [hc] at hcs'
 injection hcs' with hcs'
 subst hcs'
 have hU:= hI.forgetLoc n
 have hb0 : R.w.heap.size ≤ b:= h1.resolve_right fun h => by have:= hR.lim n b h; omega
 have hbl : b < F.w.heap.size:= (Array.getElem?_eq_some_iff.1 hh).1
 have hnl : ∀ c,(F.unloc n).loc c ≠ some b:= fun c hc' => by
  simp only [RE.unloc] at hc'
  split at hc'
  ·cases hc'
  ·rename_i hcn; exact hcn (hI.loc1 c n b hc' hb)
 have hnm : ∀ t,F.mloc t ≠ some b:= fun t ht => (hI.mlocc t b ht).2.2.2.2 n hb
 obtain ⟨F',hF'⟩ : ∃ F' : RE,F' = { F.unloc n with S:= fun b' o => F.S b' o ∨ b' = b }:= ⟨_,rfl⟩
 have hx : Ext (F.unloc n) F':= by
  rw [hF']
  refine ⟨fun _ _ h => .inl h,fun _ h => h,fun _ _ _ _ h => h,fun _ _ _ _ h => h,fun c b' hc' => hc',fun k t hk => ⟨hk,rfl,fun o ho => ?_⟩,rfl,fun t b' hb => ⟨hb,rfl⟩⟩
  rcases ho with ho | ho
  ·exact ho
  ·exact absurd (ho ▸ hk) (h3 t)
 have hw : F'.w = F.w:= by rw [hF']; rfl
 have hI1 : Inv R N (E.forget n) a F':= by
  refine ⟨hU.defers,hU.Nlim,by rw [hF']; exact hU.lentl,hU.size,by rw [hF']; exact hU.B,by rw [hF']; exact hU.Bok,by rw [hw]; exact hI.below,hU.Mlt,fun k hk o hs => ?_,by rw [hF']; exact hU.par,by rw [hF']; exact hU.G,fun b' o hb' => ?_,fun b' o hs => ?_,by rw [hF']; exact hU.ownlt,by rw [hF']; exact hU.own1,fun c b' hb' => ?_,by rw [hF']; exact hU.locd,by rw [hF']; exact hU.loc1,fun t b' hb' => ?_,by rw [hF']; exact hU.mloc1,fun k => (hU.slots k).mono hx⟩
  ·rw [hF'] at hs
   rcases hs with hs | hs
   ·exact hI.MS k hk o hs
   ·subst hs
    have:= hI.Mlt k hk
    omega
  ·rw [hF',← hI.S0 b' o hb']
   constructor
   ·rintro (hs | hs)
    ·exact hs
    ·omega
   ·exact .inl
  ·rw [hF'] at hs
   rw [hw]
   rcases hs with hs | hs
   ·exact hI.Slt b' o hs
   ·rw [hs]; exact hbl
  ·have hb2 : (F.unloc n).loc c = some b':= by rw [hF'] at hb'; exact hb'
   obtain ⟨k1,k2,k3,cs,vals,ty',hcs',hh',hr',ho'⟩:= hU.locc c b' hb2
   refine ⟨k1,fun o hs => ?_,by rw [hF']; exact k3,cs,vals,ty',hcs',by rw [hw]; exact hh',hr'.mono hx,ho'⟩
   rw [hF'] at hs
   rcases hs with hs | hs
   ·exact k2 o hs
   ·exact hnl c (hs ▸ hb2)
  ·have hb2 : (F.unloc n).mloc t = some b':= by rw [hF'] at hb'; exact hb'
   obtain ⟨k1,k2,k3,k4,k5⟩:= hU.mlocc t b' hb2
   refine ⟨k1,by rw [hw]; exact k2,fun o hs => ?_,by rw [hF']; exact k4,by rw [hF']; exact k5⟩
   rw [hF'] at hs
   rcases hs with hs | hs
   ·exact k3 o hs
   ·exact hnm t (hs ▸ hb2)
 have hrl:= hr.length
 have hq2 : RepL F'.closed l ((vals.toList.drop o).take (len * e)):= RepL.mono hx.closed (mapO_rep (E:= F) (E':= F.closed) (fun x y v h1 h2 => close_rep hI h1 h2) hl ((hr.drop o).take _))
 obtain ⟨k1,k2,k3⟩:= chunk_rep hq.2.2 len hq2 (by rw [List.length_take,List.length_drop]; omega) fun u hu => ho u (List.mem_of_mem_drop (List.mem_of_mem_take hu))
 refine ⟨_,F',hw,rfl,hset hI1 hw (fun c i hpc => ?_) ?_ ⟨_,at_forget n hpn hp⟩⟩
 ·have hcn : c ≠ n:= fun e' => hpn i (by rw [hpc,e'])
  rw [hF']
  simp only [RE.unloc,if_neg hcn]
 ·simp only [Rep]
  refine ⟨_,cap,_,by rw [chunk_length],by rw [chunk_length]; exact hq.2.1,k1,k3,fun u hu => ?_,fun _ => ⟨b,o,rfl,?_⟩⟩
  ·rw [k2] at hu
   exact ho u (List.mem_of_mem_drop (List.mem_of_mem_take hu))
  ·rw [k2]
   intro j u hj
   refine ⟨by rw [hF']; exact .inr rfl,?_⟩
   rw [List.getElem?_take] at hj
   split at hj
   ·rw [List.getElem?_drop] at hj
    rw [hw]
    simp [World.cell?,hh]
    simpa using hj
   ·cases hj
theorem mkE_forget (s : List (Nat × AV)) (c : List (Nat × List AV)) (n : Nat) : (mkE s c).forget n = mkE (mapV (kill n) s) (mapV (killL n) (dropL [n] c)):= by
 simp only [mkE,Env.forget,Env.mk.injEq]
 constructor
 ·funext j; rw [getA_mapV _ rfl]
 ·funext j
  rw [getC_mapV,getC_dropL]
  split <;> rfl
theorem mkE_relab (s : List (Nat × AV)) (c : List (Nat × List AV)) (τ τ' : List Nat) : (mkE s c).relab τ τ' = mkE (mapV (relab τ τ') s) (mapV (relabL τ τ') c):= by
 simp only [mkE,Env.relab,Env.mk.injEq]
 constructor
 ·funext j; rw [getA_mapV _ rfl]
 ·funext j; rw [getC_mapV]
theorem mkE_killn' (s : List (Nat × AV)) (c : List (Nat × List AV)) (p : List Nat → Bool) : (mkE s c).killn p = mkE (mapV (killn p) s) (mapV (killnL p) c):= by
 simp only [mkE,Env.killn,Env.mk.injEq]
 constructor
 ·funext j; rw [getA_mapV _ rfl]
 ·funext j; rw [getC_mapV]
section
variable (τ τ' : List Nat)
@[go_sem] theorem relab_lit (v : Value) : relab τ τ' (.lit v) = .lit v:= rfl
@[go_sem] theorem relab_none (e : Nat) (r : List AV) : relab τ τ' (.sl .none e r) = .sl .none e r:= rfl
@[go_sem] theorem relab_nil (e : Nat) (r : List AV) : relab τ τ' (.sl .nil e r) = .sl .nil e r:= rfl
@[go_sem] theorem relab_bor (e : Nat) (r : List AV) : relab τ τ' (.sl .bor e r) = .sl .bor e r:= rfl
@[go_sem] theorem relab_gone (e : Nat) (r : List AV) : relab τ τ' (.sl .gone e r) = .sl .gone e r:= rfl
@[go_sem] theorem relab_own (t : List Nat) (e : Nat) (r : List AV) : relab τ τ' (.sl (.own t) e r) = if t = τ then .sl (.own τ') e r else if t = τ' then .sl .none e r else .sl (.own t) e r:= by
 simp only [relab]
 split
 ·rfl
 ·split <;> rfl
@[go_sem] theorem relab_fr (t : List Nat) (e : Nat) (r : List AV) : relab τ τ' (.sl (.fr t) e r) = if t = τ then .sl (.fr τ') e r else if t = τ' then .sl .gone e r else .sl (.fr t) e r:= by
 simp only [relab]
 split
 ·rfl
 ·split <;> rfl
@[go_sem] theorem relab_agg (cs : List AV) : relab τ τ' (.agg cs) = .agg (relabL τ τ' cs):= rfl
@[go_sem] theorem relab_tup (cs : List AV) : relab τ τ' (.tup cs) = .tup (relabL τ τ' cs):= rfl
@[go_sem] theorem relab_rp (cs : List AV) : relab τ τ' (.rp cs) = .rp cs:= rfl
@[go_sem] theorem relab_bp (cs : List AV) : relab τ τ' (.bp cs) = .bp cs:= rfl
@[go_sem] theorem relab_lp (c o : Nat) : relab τ τ' (.lp c o) = .lp c o:= rfl
@[go_sem] theorem relab_ml (c o n k : Nat) (g : Bool) (e : Nat) : relab τ τ' (.ml c o n k g e) = .ml c o n k g e:= rfl
@[go_sem] theorem relab_mp (k : List Value) (v : List AV) : relab τ τ' (.mp k v) = .mp k v:= rfl
@[go_sem] theorem relab_mu (t : List Nat) (k : List Value) (v : List AV) : relab τ τ' (.mu t k v) = .mu t k v:= rfl
@[go_sem] theorem relab_gl (i : Nat) : relab τ τ' (.gl i) = .gl i:= rfl
@[go_sem] theorem relab_gp (i : Nat) : relab τ τ' (.gp i) = .gp i:= rfl
@[go_sem] theorem relab_dead : relab τ τ' .dead = .dead:= rfl
@[go_sem] theorem relab_ifc (t : TypeId) (x : AV) : relab τ τ' (.ifc t x) = .ifc t (relab τ τ' x):= rfl
@[go_sem] theorem relab_clo (f : Fn) (a b : List AV) : relab τ τ' (.clo f a b) = .clo f (relabL τ τ' a) (relabL τ τ' b):= rfl
@[go_sem] theorem relabL_nil : relabL τ τ' [] = []:= rfl
@[go_sem] theorem relabL_cons (x : AV) (xs : List AV) : relabL τ τ' (x :: xs) = relab τ τ' x :: relabL τ τ' xs:= rfl
end
section
variable (p : List Nat → Bool)
@[go_sem] theorem killn_sl (t : Tok) (e : Nat) (r : List AV) : killn p (.sl t e r) = .sl t e r:= rfl
@[go_sem] theorem killn_lp (c o : Nat) : killn p (.lp c o) = .lp c o:= rfl
@[go_sem] theorem killn_rp (cs : List AV) : killn p (.rp cs) = .rp cs:= rfl
@[go_sem] theorem killn_bp (cs : List AV) : killn p (.bp cs) = .bp cs:= rfl
@[go_sem] theorem killn_ml (c o n k : Nat) (g : Bool) (e : Nat) : killn p (.ml c o n k g e) = .ml c o n k g e:= rfl
@[go_sem] theorem killn_mf (t : List Nat) (al : Bool) : killn p (.mf t al) = .mf t al:= rfl
@[go_sem] theorem killn_mp (k : List Value) (v : List AV) : killn p (.mp k v) = .mp k v:= rfl
@[go_sem] theorem killn_mu (t : List Nat) (k : List Value) (v : List AV) : killn p (.mu t k v) = if p t = true then .dead else .mu t k v:= rfl
@[go_sem] theorem killn_gl (i : Nat) : killn p (.gl i) = .gl i:= rfl
@[go_sem] theorem killn_gp (i : Nat) : killn p (.gp i) = .gp i:= rfl
@[go_sem] theorem killn_dead : killn p .dead = .dead:= rfl
@[go_sem] theorem killn_agg (cs : List AV) : killn p (.agg cs) = .agg (killnL p cs):= rfl
@[go_sem] theorem killn_tup (cs : List AV) : killn p (.tup cs) = .tup (killnL p cs):= rfl
@[go_sem] theorem killn_ifc (t : TypeId) (x : AV) : killn p (.ifc t x) = .ifc t (killn p x):= rfl
@[go_sem] theorem killn_clo (f : Fn) (a b : List AV) : killn p (.clo f a b) = .clo f (killnL p a) (killnL p b):= rfl
@[go_sem] theorem killnL_nil : killnL p [] = []:= rfl
@[go_sem] theorem killnL_cons (x : AV) (xs : List AV) : killnL p (x :: xs) = killn p x :: killnL p xs:= rfl
variable (τ : List Nat) (ks : List Value) (vs : List AV)
@[go_sem] theorem renew_lit (v : Value) : renew τ ks vs (.lit v) = .lit v:= rfl
@[go_sem] theorem renew_sl (t : Tok) (e : Nat) (r : List AV) : renew τ ks vs (.sl t e r) = .sl t e r:= rfl
@[go_sem] theorem renew_lp (c o : Nat) : renew τ ks vs (.lp c o) = .lp c o:= rfl
@[go_sem] theorem renew_rp (cs : List AV) : renew τ ks vs (.rp cs) = .rp cs:= rfl
@[go_sem] theorem renew_bp (cs : List AV) : renew τ ks vs (.bp cs) = .bp cs:= rfl
@[go_sem] theorem renew_ml (c o n k : Nat) (g : Bool) (e : Nat) : renew τ ks vs (.ml c o n k g e) = .ml c o n k g e:= rfl
@[go_sem] theorem renew_mf (t : List Nat) (al : Bool) : renew τ ks vs (.mf t al) = .mf t al:= rfl
@[go_sem] theorem renew_mp (k : List Value) (v : List AV) : renew τ ks vs (.mp k v) = .mp k v:= rfl
@[go_sem] theorem renew_mu (t : List Nat) (k : List Value) (v : List AV) : renew τ ks vs (.mu t k v) = if t = τ then .mu t ks vs else .mu t k v:= rfl
@[go_sem] theorem renew_gl (i : Nat) : renew τ ks vs (.gl i) = .gl i:= rfl
@[go_sem] theorem renew_dead : renew τ ks vs .dead = .dead:= rfl
@[go_sem] theorem renew_agg (cs : List AV) : renew τ ks vs (.agg cs) = .agg (renewL τ ks vs cs):= rfl
@[go_sem] theorem renewL_nil : renewL τ ks vs [] = []:= rfl
@[go_sem] theorem renewL_cons (x : AV) (xs : List AV) : renewL τ ks vs (x :: xs) = renew τ ks vs x :: renewL τ ks vs xs:= rfl
end
end Go.Proofs.YtjceingdmfogeaaGreatDoor.VL
end

section
set_option maxHeartbeats 4000000
namespace Go.Proofs.YtjceingdmfogeaaGreatDoor.VL
open Go.RowKit Go.Proofs Go.Sort
abbrev f_q127 : FuncId:= 125
theorem rep_nums {E : RE} : ∀ {l : List Nat} {vs : List Value},RepL E (l.map avU) vs → vs = l.map SQ.enc
 | [],vs,h => by simpa [RepL] using h
 | a :: l,vs,h => by
  simp only [List.map_cons,RepL,avU,Rep] at h
  obtain ⟨v,ws,rfl,rfl,h2⟩:= h
  rw [rep_nums h2]
  rfl
theorem flat_nums : ∀ l : List Nat,flat (l.map SQ.enc) = l.map SQ.enc
 | [] => rfl
 | a :: l => by
  have:= flat_nums l
  simp only [flat,List.map_cons,List.flatMap_cons] at this ⊢
  rw [this]
  rfl
theorem repL_nums (E : RE) : ∀ l : List Nat,RepL E (l.map avU) (l.map SQ.enc)
 | [] => by simp [RepL]
 | a :: l => by
  simp only [List.map_cons,RepL]
  exact ⟨_,_,rfl,by simp only [avU,Rep,SQ.enc],repL_nums E l⟩
theorem C_AppendSeq (t : Tok) (e : Nat) (l : List Nat) (ht : t = .none ∨ l = []) (h0 : l ≠ []) (hl : l.length ≤ 4294967296) :
  AC Tryz.prog f_q127 [.sl .nil 0 [],.clo (.func f_q111) [] [.rp [.sl t e (l.map avU)]]] (.sl (.fr [0]) 1 (l.map avU)):= by
 obtain rfl : t = .none:= ht.resolve_right h0
 refine ⟨rfl,enters_of Tryz.func125 (by kernel_rfl) (by kernel_rfl),fun R cargs hR hh hg ha => ?_⟩
 simp only [RepL,Rep] at ha
 obtain ⟨_,_,rfl,⟨A,cap,vs,rfl,_,hvs,_,_,rfl,rfl⟩,_,_,rfl,⟨fs,cs,rfl,rfl,w1,ws1,rfl,⟨Bs,Bo,us,rfl,⟨sv,us',rfl,⟨A2,cap2,vs2,rfl,hcap2,hr2,_,_,hat2⟩,rfl⟩,hat⟩,rfl⟩,rfl⟩:= ha
 have hlen : (l.map avU).length = l.length:= by simp
 have hne : l.map avU ≠ []:= by simpa using h0
 obtain ⟨b,o,rfl,hat3⟩:= hat2 hne
 obtain rfl:= rep_nums hr2
 rw [flat_nums] at hat3
 have hBs:= hat 0 _ rfl
 simp only [Nat.add_zero] at hBs
 have hlt:= hR.S _ _ hBs.1
 have hcell : ∀ j,j < l.length → R.w.cell? ⟨b,o + j,none⟩ = some (.int .u32 ((l[j]?.getD 0 : Nat) : Int)):= by
  intro j hj
  refine (hat3 j _ ?_).2
  rw [List.getElem?_map,List.getElem?_eq_getElem hj]
  rfl
 have hb : b < R.w.heap.size:= by
  obtain ⟨x,hx⟩ : ∃ x,(l.map SQ.enc)[0]? = some x:= by
   cases l with
   | nil => exact absurd rfl h0
   | cons a l => exact ⟨_,rfl⟩
  exact hR.S _ _ (hat3 0 _ hx).1
 rw [hlen] at hBs
 have hN : SQ.Nums R.w.heap.size R.w (.slice (some ⟨b,o,none⟩) l.length cap2) l:= ⟨_,cap2,rfl,fun _ => ⟨b,o,rfl,hb,hcell⟩⟩
 have main:= callsIn_wide.1 (SQ.appendSeq_in _ 3 trivial trivial rfl (Nat.le_refl _) Bs Bo _ l hl R.w hlt hBs.2 hN)
 refine main.mono ?_
 rintro e w' ⟨v,rfl,hown,hone,hbl⟩
 obtain ⟨hxl,hcase⟩:= hown
 rcases hcase with ⟨_,hz⟩ | ⟨g,cap3,cur,rfl,hbase,hgb,q1,q2,q3,q4⟩
 ·exact absurd (List.eq_nil_of_length_eq_zero hz) h0
 ·have hgl : g < w'.heap.size:= (Array.getElem?_eq_some_iff.1 hgb).1
  refine ⟨_,{ R with w:= w',own:= fun k τ => k = g ∧ τ = [0] },rfl,rfl,?_,⟨⟨hbl.os,hbl.tape,hbl.output,hbl.size,fun k hk _ => hbl.block k hk⟩,hR.MS,fun b o _ => Iff.rfl,fun b o hs => Nat.lt_of_lt_of_le (hR.S b o hs) hbl.size,rfl,fun k τ ho => ?_,fun k τ τ' h1 h2 => by rw [h1.2,h2.2],fun c b hc => hc⟩,fun c b hc => ?_⟩
  ·simp only [Rep]
   refine ⟨_,cap3,l.map SQ.enc,by rw [hlen],by rw [hlen]; exact q1,repL_nums _ _,fun u hu => ?_,fun u hu => ?_,.inr ⟨g,cur,_,rfl,fun j u hj => ⟨trivial,?_⟩,hgb,q2,by rw [q3],by simp,fun o hs => ?_,hone g cur _ _ rfl hgb⟩⟩
   ·obtain ⟨a,_,rfl⟩:= List.mem_map.1 hu
    rfl
   ·rw [flat_nums] at hu
    obtain ⟨a,_,rfl⟩:= List.mem_map.1 hu
    rfl
   ·rw [flat_nums,← q4,List.getElem?_take] at hj
    split at hj
    ·simp only [World.cell?,hgb,Nat.zero_add]
     simpa using hj
    ·cases hj
   ·have:= hR.S g o hs
    omega
  ·obtain ⟨rfl,_⟩:= ho
   exact ⟨hbase,hgl⟩
  ·obtain ⟨cs,_,_,e,_⟩:= hh c b hc
   cases e
theorem C_AppendSeq0 (t : Tok) (e : Nat) : AC Tryz.prog f_q127 [.sl .nil 0 [],.clo (.func f_q111) [] [.rp [.sl t e []]]] (.sl .none 1 []):= by
 refine ⟨rfl,enters_of Tryz.func125 (by kernel_rfl) (by kernel_rfl),fun R cargs hR hh hg ha => ?_⟩
 simp only [RepL,Rep] at ha
 obtain ⟨_,_,rfl,⟨A,cap,vs,rfl,_,hvs,_,_,rfl,rfl⟩,_,_,rfl,⟨fs,cs,rfl,rfl,w1,ws1,rfl,⟨Bs,Bo,us,rfl,⟨sv,us',rfl,⟨A2,cap2,vs2,rfl,hcap2,hr2,_,_,hat2⟩,rfl⟩,hat⟩,rfl⟩,rfl⟩:= ha
 have hBs:= hat 0 _ rfl
 simp only [Nat.add_zero] at hBs
 have hlt:= hR.S _ _ hBs.1
 have hN : SQ.Nums R.w.heap.size R.w (.slice A2 ([] : List AV).length cap2) []:= ⟨_,cap2,rfl,fun h => absurd rfl h⟩
 have main:= callsIn_wide.1 (SQ.appendSeq_in _ 3 trivial trivial rfl (Nat.le_refl _) Bs Bo _ [] (by simp) R.w hlt hBs.2 hN)
 refine main.mono ?_
 rintro e w' ⟨v,rfl,hown,hone,hbl⟩
 refine ⟨v,{ R with w:= w' },rfl,rfl,?_,⟨⟨hbl.os,hbl.tape,hbl.output,hbl.size,fun k hk _ => hbl.block k hk⟩,hR.MS,fun b o _ => Iff.rfl,fun b o hs => Nat.lt_of_lt_of_le (hR.S b o hs) hbl.size,rfl,fun g τ ho => (hR.own g τ ho).elim,fun g τ τ' ho => (hR.own g τ ho).elim,fun c b hc => hc⟩,fun c b hc => ?_⟩
 ·obtain ⟨_,hcase⟩:= hown
  simp only [Rep]
  rcases hcase with ⟨rfl,_⟩ | ⟨g,cap3,cur,rfl,_⟩
  ·exact ⟨none,0,[],rfl,Nat.le_refl _,by simp [RepL],by simp,by simp [flat],fun h => absurd rfl h⟩
  ·exact ⟨_,cap3,[],rfl,Nat.zero_le _,by simp [RepL],by simp,by simp [flat],fun h => absurd rfl h⟩
 ·obtain ⟨cs,_,_,e,_⟩:= hh c b hc
  cases e
end Go.Proofs.YtjceingdmfogeaaGreatDoor.VL
end

section
set_option maxHeartbeats 4000000
namespace Go.Proofs.YtjceingdmfogeaaGreatDoor.VL
open Go.RowKit Go.Proofs Go.Sort
theorem C_IndexFuncAddr {f : FuncId} {fst caps : List AV} {asf : Nat → List AV} {p : Nat → Bool} (t : Tok) (e : Nat) (l : List Nat) (hf : frB t = false) (he : e = 1 ∨ l = []) (hl : l.length < 9223372036854775808)
    (hlow : ∀ n, mapO (lower (getC []) 8) (fst ++ [(avU n)] ++ caps) = some (asf n)) (hAC : ∀ n ∈ l, AC Tryz.prog f (asf n) (.lit (.bool (p n)))) :
    AC Tryz.prog f_q109 [.sl t e (l.map avU), .clo (.func f) fst caps] (.lit (.int .i64 (idxOf p l))) := by
  refine ac_q109 ?_ (Nat.le_add_left 2 17)
  simp only [go_sem, c_q109]
  refine aw_loop (fun m E => ∃ k, k + m = l.length ∧ (∀ (j : Nat) (y : Nat), j < k → l[j]? = some y → p y = false) ∧ E = mkE [(0, .sl t e (l.map avU)), (1, .clo (.func f) fst caps), (7, .lit (.int .i64 l.length)), (8, .lit (.int .i64 (k : Nat)))] []) l.length ?_ ?_
  · exact ⟨0, by omega, fun j y hj => absurd hj (Nat.not_lt_zero j), by simp only [go_sem, Int.ofNat_zero]⟩
  · rintro m _ ⟨k, hk, hall, rfl⟩
    simp only [go_sem]
    refine condX_of (fun h => ?_) (fun h => ?_)
    · have hkl : k < l.length := by simpa using h
      obtain rfl : e = 1 := he.resolve_right (fun h => by rw [h] at hkl; simp at hkl)
      obtain ⟨x, hx⟩ : ∃ x, l[k]? = some x := ⟨l[k], List.getElem?_eq_getElem hkl⟩
      have hw := wrap_succ k (by omega)
      have hlx := hlow x
      simp only [avU, avStr, avU] at hlx
      simp only [go_sem, h, hx, Int.toNat_natCast, Int.natCast_nonneg, List.getElem?_map, avRow_some, hf, avU, avStr, avU, hlx]
      refine callX_of (hAC x (List.mem_of_getElem? hx)) ?_
      cases hp : p x
      · simp only [go_sem, hw]
        refine ⟨m - 1, by omega, k + 1, by omega, fun j y hj hy => ?_, rfl⟩
        by_cases hjk : j = k
        · subst hjk
          rw [hx] at hy
          injection hy with hy
          rw [← hy]
          exact hp
        · exact hall j y (by omega) hy
      · simp only [go_sem, idxOf_some hx hp hall]
    · have hkl : k = l.length := by have : ¬ k < l.length := by simpa using h
                                    omega
      have e : idxOf p l = -1 := idxOf_none fun i x hi => hall i x (by have := (List.getElem?_eq_some_iff.1 hi).1; omega) hi
      simp only [go_sem, h, e]
theorem C_member_1 (y : Nat) (hy : y < 4294967296) : AC Tryz.prog f_q81 [avU y] (.lit (.bool (!hostN y))):= by
 refine ac_q81 ?_ (Nat.le_add_left 1 _)
 simp only [go_sem,c_q81,avU]
 refine callX_of (C_host y hy) ?_
 simp only [go_sem]
theorem C_has_member_1 (t : Tok) (e : Nat) (l : List Nat) (ht : lowTok t = t) (hf : frB t = false) (he : e = 1 ∨ l = []) (hl : l.length < 9223372036854775808) (hx : ∀ y ∈ l,y < 4294967296) :
  AC Tryz.prog f_q80 [.sl t e (l.map avU),.clo (.func f_q81) [] []] (.lit (.bool (l.any fun y => !hostN y))):= by
 refine ac_q80 ?_ (Nat.le_add_left 2 _)
 simp only [go_sem,c_q80,avStr,ht]
 refine callX_of (C_IndexFuncAddr (asf:= fun y => [avU y]) (p:= fun y => !hostN y) t e l hf he hl (fun y => ?_) (fun y hy => C_member_1 y (hx y hy))) ?_
 ·simp only [go_sem,avU,lower]
 ·simp only [go_sem,any_idx]
theorem C_Values (t : Tok) (e : Nat) (rows : List AV) (ht : t = .none ∨ t = .nil) : AC Tryz.prog f_q83 [.sl t e rows] (.clo (.func f_q111) [] [.rp [.sl t e rows]]):= by
 refine ac_q83 ?_ (Nat.le_add_left 1 _)
 rcases ht with rfl | rfl <;> simp only [go_sem,c_q83] <;> rfl
theorem C_Collect (t : Tok) (e : Nat) (l : List Nat) (ht : t = .none ∨ l = []) (h0 : l ≠ []) (hl : l.length ≤ 4294967296) :
  AC Tryz.prog f_q110 [.clo (.func f_q111) [] [.rp [.sl t e (l.map avU)]]] (.sl (.fr [4,0]) 1 (l.map avU)):= by
 refine ac_q110 ?_ (Nat.le_add_left 1 _)
 simp only [go_sem,c_q110]
 refine callX_of (C_AppendSeq t e l ht h0 hl) ?_
 simp only [go_sem]
theorem C_Collect0 (t : Tok) (e : Nat) : AC Tryz.prog f_q110 [.clo (.func f_q111) [] [.rp [.sl t e []]]] (.sl .none 1 []):= by
 refine ac_q110 ?_ (Nat.le_add_left 1 _)
 simp only [go_sem,c_q110]
 refine callX_of (C_AppendSeq0 t e) ?_
 simp only [go_sem]
def zs (l : List Nat) : List Int:= l.map fun (n : Nat) => (n : Int)
theorem zs_av (l : List Nat) : (zs l).map aI = l.map avU:= by
 unfold zs
 rw [List.map_map]
 exact List.map_congr_left fun n _ => rfl
def sorted (l : List Nat) : List Int:= (zs l).mergeSort (fun x y => decide (x ≤ y))
theorem C_Sorted (t : Tok) (e : Nat) (l : List Nat) (ht : t = .none ∨ l = []) (hl : l.length ≤ 255) :
  AC Tryz.prog f_q82 [.clo (.func f_q111) [] [.rp [.sl t e (l.map avU)]]] (.sl .none 1 ((sorted l).map aI)):= by
 by_cases h0 : l = []
 ·subst h0
  refine ac_q82 ?_ (Nat.le_add_left 1 _)
  simp only [go_sem,c_q82,List.map_nil]
  refine callX_of (C_Collect0 t e) ?_
  simp only [go_sem]
  refine shiftX_refl ?_
  simp only [go_sem]
  refine callX_of (C_Sort0 _ _) ?_
  simp only [go_sem]
  simp [sorted,zs]
 ·refine ac_q82 ?_ (Nat.le_add_left 1 _)
  simp only [go_sem,c_q82]
  refine callX_of (C_Collect t e l ht h0 (by omega)) ?_
  rw [← zs_av]
  have hz0 : zs l ≠ []:= by simpa [zs] using h0
  have hzl : (zs l).length = l.length:= by simp [zs]
  rw [← hzl] at hl
  unfold sorted
  generalize zs l = z at hz0 hl
  simp only [go_sem]
  refine shiftX_of (VS.adopt (p:= .slot 3) (g:= false) 0 rfl (by simpa using hz0) (fun r hr => ?_) (by decide) rfl) ?_
  ·obtain ⟨n,_,rfl⟩:= List.mem_map.1 hr
   rfl
  ·rintro _ ⟨cap,j,hcap,rfl⟩
   rw [cells_ints]
   simp only [List.length_map] at hcap ⊢
   simp only [Env.set]
   simp only [mkE_strip,mkE_put,mkE_putc]
   have ht : Tl (List.replicate j .dead):= fun x hx => .inl (List.eq_of_mem_replicate hx)
   generalize List.replicate j AV.dead = tl at ht ⊢
   have hS:= C_SortL (cap:= cap) ht hl
   have hm : (z.mergeSort (fun x y => decide (x ≤ y))).length = z.length:= List.length_mergeSort _
   generalize z.mergeSort (fun x y => decide (x ≤ y)) = l' at hS hm ⊢
   simp only [go_sem]
   refine call0_of ht rfl hS ?_
   simp only [go_sem]
   have hret : ∀ C,retM C 7 0 z.length cap false 1 (some (l'.map aI ++ tl)) = some (.sl .none 1 (l'.map aI)):= by
    intro C
    rw [← hm,retM_some (l:= l'.map aI) 0 l'.length cap false 1 _ (show 0 + l'.length * 1 ≤ (l'.map aI ++ tl).length ∧ l'.length ≤ cap ∧ (false = true ∨ (1 : Nat) = 1) from ⟨by simp,by omega,.inr rfl⟩) ?_,chunk_ints]
    rw [List.drop_zero,Nat.mul_one,List.take_append_of_le_length (by simp),List.take_of_length_le (by simp)]
    refine mapO_id fun x hx => ?_
    obtain ⟨n,_,rfl⟩:= List.mem_map.1 hx
    rfl
   simp only [hret]
   rfl
theorem sorted_len (l : List Nat) : (sorted l).length = l.length:= by simp [sorted,zs,List.length_mergeSort]
theorem sorted_lt (l : List Nat) (h : l.Nodup) : (sorted l).Pairwise (· < ·):= by
 have hz : (zs l).Nodup:= by
  unfold zs
  rw [List.nodup_iff_pairwise_ne,List.pairwise_map]
  exact (List.nodup_iff_pairwise_ne.1 h).imp fun h e => h (by omega)
 have hp:= List.mergeSort_perm (zs l) (fun x y => decide (x ≤ y))
 have hn : (sorted l).Nodup:= hp.nodup_iff.2 hz
 have hs : (sorted l).Pairwise (fun a b => decide (a ≤ b) = true):= List.pairwise_mergeSort (le:= fun x y : Int => decide (x ≤ y)) (by simp; omega) (by simp; omega) (zs l)
 rw [List.nodup_iff_pairwise_ne] at hn
 exact (hs.and hn).imp fun ⟨h1,h2⟩ => by simp at h1; omega
theorem C_CompactN (l : List Int) (hl : l.length ≤ 255) (hs : l.Pairwise (· < ·)) : AC Tryz.prog f_q21 [.sl .none 1 (l.map aI)] (.sl .none 1 (l.map aI)):= by
 refine ac_q21 ?_ (Nat.le_add_left 1 _)
 simp only [go_sem,c_q21,List.length_map]
 by_cases h2 : l.length < 2
 ·have f1 : ((l.length : Int) < 2) = True:= eq_true (by omega)
  simp only [go_sem,f1,decide_true]
  refine shiftX_refl ?_
  simp only [go_sem]
 have f1 : ((l.length : Int) < 2) = False:= eq_false (by omega)
 simp only [go_sem,f1,decide_false]
 refine aw_loop (fun m E => ∃ i : Nat,1 ≤ i ∧ i ≤ l.length ∧ l.length - i ≤ m ∧ E = mkE [(0,.sl .none 1 (l.map aI)),(3,iI i)] []) l.length ?_ ?_
 ·exact ⟨1,Nat.le_refl _,by omega,by omega,by simp only [go_sem,Int.natCast_one]⟩
 ·rintro m _ ⟨i,h1,hi,hm,rfl⟩
  by_cases hin : i < l.length
  ·have f2 : ((i : Int) < (l.length : Int)) = True:= eq_true (by omega)
   have w1:= iwn (i - 1) (by omega : (i : Int) - 1 = ((i - 1 : Nat) : Int)) (by omega)
   have w2:= iwn (i + 1) (by omega : (i : Int) + 1 = ((i + 1 : Nat) : Int)) (by omega)
   have g1 : l[i]? = some l[i]:= List.getElem?_eq_getElem hin
   have g2 : l[i - 1]? = some l[i - 1]:= List.getElem?_eq_getElem (by omega)
   have hlt : l[i - 1] < l[i]:= List.pairwise_iff_getElem.1 hs (i - 1) i (by omega) hin (by omega)
   have f3 : (l[i] == l[i - 1]) = false:= by simp; omega
   have hr:= fun x => avRow_some 1 .none (AV.lit x) rfl
   simp only [go_sem,f2,decide_true,w1,List.length_map,List.getElem?_map,g1,g2,hr,aI,Option.map_some,Int.natCast_nonneg,Int.toNat_natCast,f3,w2]
   exact ⟨m - 1,by omega,i + 1,by omega,by omega,by omega,rfl⟩
  ·have f2 : ((i : Int) < (l.length : Int)) = False:= eq_false (by omega)
   simp only [go_sem,f2,decide_false,List.length_map]
theorem C_member (w : NW) (h : w.OK) (i : Nat) (x : NM) (hx : w.mbs[i]? = some x) (hv : mbOf w x ≠ some 1) :
  AC Tryz.prog f_q41 [.agg (netV w),.lit (.int .i64 (i : Nat))] (amiss (mbOf w x)):= by
 have hi : i < w.mbs.length:= (List.getElem?_eq_some_iff.1 hx).1
 have hm : x ∈ w.mbs:= List.mem_of_getElem? hx
 refine ac_q41 ?_ (Nat.le_add_left 2 _) (by unfold mbOf; split <;> (try split) <;> (try split) <;> (try split) <;> rfl)
 have gm : (0 ∈ GS) = True:= eq_true (by simp [GS])
 simp only [go_sem,c_q41,netV,Int.toNat_natCast,Int.natCast_nonneg,List.getElem?_map,hx,rowAgg,avMb,avU,List.length_map]
 refine callX_of (C_place x.lk w.lks.length) ?_
 cases h2 : placeN x.lk w.lks.length
 ·simp only [go_sem,h2,g_none,mbOf,amiss,Bool.not_false]
 simp only [go_sem,h2,Bool.not_true]
 refine callX_of (C_Group x.g (h.mbg x hm)) ?_
 cases h3 : groupN x.g
 ·simp only [go_sem,h2,h3,g_kind,mbOf,amiss,Bool.not_false,Bool.true_or,Bool.true_eq_false]
 simp only [go_sem,h3,Bool.not_true]
 refine callX_of (C_has_member_1 .none 1 x.src rfl rfl (.inl rfl) (h.mbl x hm) (h.mbs x hm)) ?_
 cases h4 : x.src.any fun y => !hostN y
 case true => simp only [go_sem,h2,h3,h4,g_kind,mbOf,amiss,Bool.not_true,Bool.false_or,Bool.true_eq_false]
 simp only [go_sem,h4,List.length_map]
 by_cases h5 : 4 < x.src.length
 ·have f5 : (4 < (x.src.length : Int)) = True:= eq_true (by omega)
  simp only [go_sem,f5,gm,h2,h3,h4,h5,mbOf,amiss,decide_true,Bool.not_true,Bool.false_or,Bool.true_eq_false,Bool.false_eq_true]
 have f5 : (4 < (x.src.length : Int)) = False:= eq_false (by omega)
 have hnd : x.src.Nodup:= by
  apply Classical.byContradiction
  intro hn
  apply hv
  simp [mbOf,h2,h3,h5,hn]
  simpa using h4
 simp only [go_sem,f5,decide_false]
 refine callX_of (C_Values .none 1 (x.src.map avU) (.inl rfl)) ?_
 simp only [go_sem]
 refine callX_of (C_Sorted .none 1 x.src (.inl rfl) (by omega)) ?_
 simp only [go_sem]
 refine shiftX_refl ?_
 have hl:= sorted_len x.src
 have f6 : ((x.src.length : Int) < (x.src.length : Int)) = False:= eq_false (by omega)
 simp only [go_sem]
 refine callX_of (C_CompactN (sorted x.src) (by omega) (sorted_lt x.src hnd)) ?_
 simp only [go_sem,List.length_map,hl,f6,decide_false,h2,h3,h4,h5,hnd,mbOf,amiss,Bool.not_true,Bool.false_or,Bool.true_eq_false,Bool.false_eq_true,decide_true]
end Go.Proofs.YtjceingdmfogeaaGreatDoor.VL
end

