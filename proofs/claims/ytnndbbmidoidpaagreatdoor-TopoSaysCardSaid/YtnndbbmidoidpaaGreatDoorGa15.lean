import Derived.Test.YtnndbbmidoidpaaGreatDoorGa14
set_option linter.unusedVariables false
set_option linter.unusedSimpArgs false
section
set_option maxHeartbeats 4000000
namespace Go.Proofs.YtnndbbmidoidpaaGreatDoor.VL
open Go.RowKit Go.Proofs
def nmCode (ok : Bool) : Int:= if ok = true then 0 else 109
def fstOK (l : List UInt8) : Bool:= decide (1 ≤ l.length) && (decide (l.length ≤ 12) && hd0 l[0]?)
theorem nameOK_fst (l : List UInt8) : nameOK l = (fstOK l && l.all fun b => signN b.toNat):= by
 simp only [nameOK,fstOK,Bool.and_assoc]
theorem C_r5Name (s : ByteArray) (hs : s.size < 9223372036854775808) : AC Tryz.prog f_q165 [avStr s] (.lit (.int .i64 (nmCode (nameOK s.data.toList)))):= by
 refine ac_q165 ?_ (Nat.le_add_left 1 _)
 have hsz : s.size = s.data.toList.length:= Lib.size_eq s
 simp only [go_sem,c_q165,avStr]
 generalize hL : s.data.toList = l at hsz
 have hf:= nameOK_fst l
 by_cases h1 : 1 ≤ l.length
 ·have e1 : ((1 : Int) ≤ (s.size : Int)) = True:= eq_true (by omega)
  obtain ⟨b0,hb0⟩ : ∃ b,l[0]? = some b:= ⟨l[0],List.getElem?_eq_getElem (by omega)⟩
  have i0:= avIxs_l s .i64 0 b0 (by rw [hL]; exact hb0)
  rw [show ((0 : Nat) : Int) = 0 from rfl] at i0
  have d1 : decide (1 ≤ l.length) = true:= by simpa using h1
  by_cases h2 : l.length ≤ 12
  ·have e2 : ((s.size : Int) ≤ 12) = True:= eq_true (by omega)
   have d2 : decide (l.length ≤ 12) = true:= by simpa using h2
   by_cases hA : 97 ≤ b0.toNat
   ·have gA : ((97 : Int) ≤ ((b0.toNat : Nat) : Int)) = True:= eq_true (by omega)
    by_cases hB : b0.toNat ≤ 122
    ·have gB : (((b0.toNat : Nat) : Int) ≤ 122) = True:= eq_true (by omega)
     have eF : fstOK l = true:= by simp only [fstOK,d1,d2,hb0,hd0,letterN,hA,hB,decide_true,Bool.and_self]
     simp only [go_sem,e1,e2,i0,gA,gB,decide_true,decide_false]
     refine aw_loop (fun m E => ∃ (k : Nat) (ok : Bool),k + m = l.length ∧ ok = (fstOK l && (l.take k).all fun b => signN b.toNat) ∧ E = mkE [(0,.lit (.string s)),(3,.lit (.bool ok)),(4,.lit (.int .i64 (k : Nat)))] []) l.length ?_ ?_
     ·exact ⟨0,_,by omega,rfl,by simp only [go_sem,eF,List.take_zero,List.all_nil,Bool.and_true]; rfl⟩
     ·rintro m _ ⟨k,ok,hk,hok,rfl⟩
      by_cases hkl : k < l.length
      ·have f1 : ((k : Int) < (s.size : Int)) = True:= eq_true (by omega)
       obtain ⟨b,hb⟩ : ∃ b,l[k]? = some b:= ⟨l[k],List.getElem?_eq_getElem hkl⟩
       have ib:= avIxs_l s .i64 k b (by rw [hL]; exact hb)
       have w1:= wrap_succ k (by omega)
       have hstep : (fstOK l && (l.take (k + 1)).all fun b => signN b.toNat) = (ok && signN b.toNat):= by
        rw [List.take_add_one,hb,List.all_append,hok,Bool.and_assoc]
        simp
       cases ok with
       | false =>
        simp only [go_sem,f1,decide_true,ib,w1]
        exact ⟨m - 1,by omega,k + 1,false,by omega,by rw [hstep]; rfl,rfl⟩
       | true =>
        have done : ∀ t : Bool,signN b.toNat = t → t = (fstOK l && (l.take (k + 1)).all fun b => signN b.toNat):= fun t ht => by rw [hstep,ht]; rfl
        by_cases hA : 97 ≤ b.toNat
        ·have gA : ((97 : Int) ≤ ((b.toNat : Nat) : Int)) = True:= eq_true (by omega)
         by_cases hB : b.toNat ≤ 122
         ·have gB : (((b.toNat : Nat) : Int) ≤ 122) = True:= eq_true (by omega)
          simp only [go_sem,f1,decide_true,ib,w1,gA,gB]
          exact ⟨m - 1,by omega,k + 1,true,by omega,done true (by simp [signN,letterN,hA,hB]),rfl⟩
         ·have gB : (((b.toNat : Nat) : Int) ≤ 122) = False:= eq_false (by omega)
          have g48 : ((48 : Int) ≤ ((b.toNat : Nat) : Int)) = True:= eq_true (by omega)
          have g57 : (((b.toNat : Nat) : Int) ≤ 57) = False:= eq_false (by omega)
          have g45 : (((b.toNat : Nat) : Int) == 45) = false:= by simp only [beq_eq_false_iff_ne,ne_eq]; omega
          simp only [go_sem,f1,decide_true,decide_false,ib,w1,gA,gB,g48,g57,g45]
          exact ⟨m - 1,by omega,k + 1,false,by omega,done false (by simp [signN,letterN]; omega),rfl⟩
        ·have gA : ((97 : Int) ≤ ((b.toNat : Nat) : Int)) = False:= eq_false (by omega)
         by_cases h48 : 48 ≤ b.toNat
         ·have g48 : ((48 : Int) ≤ ((b.toNat : Nat) : Int)) = True:= eq_true (by omega)
          by_cases h57 : b.toNat ≤ 57
          ·have g57 : (((b.toNat : Nat) : Int) ≤ 57) = True:= eq_true (by omega)
           simp only [go_sem,f1,decide_true,decide_false,ib,w1,gA,g48,g57]
           exact ⟨m - 1,by omega,k + 1,true,by omega,done true (by simp [signN,h48,h57]),rfl⟩
          ·have g57 : (((b.toNat : Nat) : Int) ≤ 57) = False:= eq_false (by omega)
           have g45 : (((b.toNat : Nat) : Int) == 45) = false:= by simp only [beq_eq_false_iff_ne,ne_eq]; omega
           simp only [go_sem,f1,decide_true,decide_false,ib,w1,gA,g48,g57,g45]
           exact ⟨m - 1,by omega,k + 1,false,by omega,done false (by simp [signN,letterN]; omega),rfl⟩
         ·have g48 : ((48 : Int) ≤ ((b.toNat : Nat) : Int)) = False:= eq_false (by omega)
          by_cases h45 : b.toNat = 45
          ·have g45 : (((b.toNat : Nat) : Int) == 45) = true:= by rw [h45]; rfl
           simp only [go_sem,f1,decide_true,decide_false,ib,w1,gA,g48,g45]
           exact ⟨m - 1,by omega,k + 1,true,by omega,done true (by simp [signN,h45]),rfl⟩
          ·have g45 : (((b.toNat : Nat) : Int) == 45) = false:= by simp only [beq_eq_false_iff_ne,ne_eq]; omega
           simp only [go_sem,f1,decide_true,decide_false,ib,w1,gA,g48,g45]
           exact ⟨m - 1,by omega,k + 1,false,by omega,done false (by simp [signN,letterN]; omega),rfl⟩
      ·have f1 : ((k : Int) < (s.size : Int)) = False:= eq_false (by omega)
       rw [List.take_of_length_le (by omega),← hf] at hok
       rw [← hok]
       cases ok
       ·simp only [go_sem,f1,decide_false,nmCode,Bool.false_eq_true]
       ·simp only [go_sem,f1,decide_false,nmCode]
    ·have gB : (((b0.toNat : Nat) : Int) ≤ 122) = False:= eq_false (by omega)
     have eF : fstOK l = false:= by simp [fstOK,hb0,hd0,letterN,hB]
     simp only [go_sem,e1,e2,i0,gA,gB,decide_true,decide_false]
     refine aw_loop (fun m E => ∃ (k : Nat) (ok : Bool),k + m = l.length ∧ ok = (fstOK l && (l.take k).all fun b => signN b.toNat) ∧ E = mkE [(0,.lit (.string s)),(3,.lit (.bool ok)),(4,.lit (.int .i64 (k : Nat)))] []) l.length ?_ ?_
     ·exact ⟨0,_,by omega,rfl,by simp only [go_sem,eF,List.take_zero,List.all_nil,Bool.and_true]; rfl⟩
     ·rintro m _ ⟨k,ok,hk,hok,rfl⟩
      by_cases hkl : k < l.length
      ·have f1 : ((k : Int) < (s.size : Int)) = True:= eq_true (by omega)
       obtain ⟨b,hb⟩ : ∃ b,l[k]? = some b:= ⟨l[k],List.getElem?_eq_getElem hkl⟩
       have ib:= avIxs_l s .i64 k b (by rw [hL]; exact hb)
       have w1:= wrap_succ k (by omega)
       have hstep : (fstOK l && (l.take (k + 1)).all fun b => signN b.toNat) = (ok && signN b.toNat):= by
        rw [List.take_add_one,hb,List.all_append,hok,Bool.and_assoc]
        simp
       cases ok with
       | false =>
        simp only [go_sem,f1,decide_true,ib,w1]
        exact ⟨m - 1,by omega,k + 1,false,by omega,by rw [hstep]; rfl,rfl⟩
       | true =>
        have done : ∀ t : Bool,signN b.toNat = t → t = (fstOK l && (l.take (k + 1)).all fun b => signN b.toNat):= fun t ht => by rw [hstep,ht]; rfl
        by_cases hA : 97 ≤ b.toNat
        ·have gA : ((97 : Int) ≤ ((b.toNat : Nat) : Int)) = True:= eq_true (by omega)
         by_cases hB : b.toNat ≤ 122
         ·have gB : (((b.toNat : Nat) : Int) ≤ 122) = True:= eq_true (by omega)
          simp only [go_sem,f1,decide_true,ib,w1,gA,gB]
          exact ⟨m - 1,by omega,k + 1,true,by omega,done true (by simp [signN,letterN,hA,hB]),rfl⟩
         ·have gB : (((b.toNat : Nat) : Int) ≤ 122) = False:= eq_false (by omega)
          have g48 : ((48 : Int) ≤ ((b.toNat : Nat) : Int)) = True:= eq_true (by omega)
          have g57 : (((b.toNat : Nat) : Int) ≤ 57) = False:= eq_false (by omega)
          have g45 : (((b.toNat : Nat) : Int) == 45) = false:= by simp only [beq_eq_false_iff_ne,ne_eq]; omega
          simp only [go_sem,f1,decide_true,decide_false,ib,w1,gA,gB,g48,g57,g45]
          exact ⟨m - 1,by omega,k + 1,false,by omega,done false (by simp [signN,letterN]; omega),rfl⟩
        ·have gA : ((97 : Int) ≤ ((b.toNat : Nat) : Int)) = False:= eq_false (by omega)
         by_cases h48 : 48 ≤ b.toNat
         ·have g48 : ((48 : Int) ≤ ((b.toNat : Nat) : Int)) = True:= eq_true (by omega)
          by_cases h57 : b.toNat ≤ 57
          ·have g57 : (((b.toNat : Nat) : Int) ≤ 57) = True:= eq_true (by omega)
           simp only [go_sem,f1,decide_true,decide_false,ib,w1,gA,g48,g57]
           exact ⟨m - 1,by omega,k + 1,true,by omega,done true (by simp [signN,h48,h57]),rfl⟩
          ·have g57 : (((b.toNat : Nat) : Int) ≤ 57) = False:= eq_false (by omega)
           have g45 : (((b.toNat : Nat) : Int) == 45) = false:= by simp only [beq_eq_false_iff_ne,ne_eq]; omega
           simp only [go_sem,f1,decide_true,decide_false,ib,w1,gA,g48,g57,g45]
           exact ⟨m - 1,by omega,k + 1,false,by omega,done false (by simp [signN,letterN]; omega),rfl⟩
         ·have g48 : ((48 : Int) ≤ ((b.toNat : Nat) : Int)) = False:= eq_false (by omega)
          by_cases h45 : b.toNat = 45
          ·have g45 : (((b.toNat : Nat) : Int) == 45) = true:= by rw [h45]; rfl
           simp only [go_sem,f1,decide_true,decide_false,ib,w1,gA,g48,g45]
           exact ⟨m - 1,by omega,k + 1,true,by omega,done true (by simp [signN,h45]),rfl⟩
          ·have g45 : (((b.toNat : Nat) : Int) == 45) = false:= by simp only [beq_eq_false_iff_ne,ne_eq]; omega
           simp only [go_sem,f1,decide_true,decide_false,ib,w1,gA,g48,g45]
           exact ⟨m - 1,by omega,k + 1,false,by omega,done false (by simp [signN,letterN]; omega),rfl⟩
      ·have f1 : ((k : Int) < (s.size : Int)) = False:= eq_false (by omega)
       rw [List.take_of_length_le (by omega),← hf] at hok
       rw [← hok]
       cases ok
       ·simp only [go_sem,f1,decide_false,nmCode,Bool.false_eq_true]
       ·simp only [go_sem,f1,decide_false,nmCode]
   ·have gA : ((97 : Int) ≤ ((b0.toNat : Nat) : Int)) = False:= eq_false (by omega)
    have eF : fstOK l = false:= by simp [fstOK,hb0,hd0,letterN,hA]
    simp only [go_sem,e1,e2,i0,gA,decide_true,decide_false]
    refine aw_loop (fun m E => ∃ (k : Nat) (ok : Bool),k + m = l.length ∧ ok = (fstOK l && (l.take k).all fun b => signN b.toNat) ∧ E = mkE [(0,.lit (.string s)),(3,.lit (.bool ok)),(4,.lit (.int .i64 (k : Nat)))] []) l.length ?_ ?_
    ·exact ⟨0,_,by omega,rfl,by simp only [go_sem,eF,List.take_zero,List.all_nil,Bool.and_true]; rfl⟩
    ·rintro m _ ⟨k,ok,hk,hok,rfl⟩
     by_cases hkl : k < l.length
     ·have f1 : ((k : Int) < (s.size : Int)) = True:= eq_true (by omega)
      obtain ⟨b,hb⟩ : ∃ b,l[k]? = some b:= ⟨l[k],List.getElem?_eq_getElem hkl⟩
      have ib:= avIxs_l s .i64 k b (by rw [hL]; exact hb)
      have w1:= wrap_succ k (by omega)
      have hstep : (fstOK l && (l.take (k + 1)).all fun b => signN b.toNat) = (ok && signN b.toNat):= by
       rw [List.take_add_one,hb,List.all_append,hok,Bool.and_assoc]
       simp
      cases ok with
      | false =>
       simp only [go_sem,f1,decide_true,ib,w1]
       exact ⟨m - 1,by omega,k + 1,false,by omega,by rw [hstep]; rfl,rfl⟩
      | true =>
       have done : ∀ t : Bool,signN b.toNat = t → t = (fstOK l && (l.take (k + 1)).all fun b => signN b.toNat):= fun t ht => by rw [hstep,ht]; rfl
       by_cases hA : 97 ≤ b.toNat
       ·have gA : ((97 : Int) ≤ ((b.toNat : Nat) : Int)) = True:= eq_true (by omega)
        by_cases hB : b.toNat ≤ 122
        ·have gB : (((b.toNat : Nat) : Int) ≤ 122) = True:= eq_true (by omega)
         simp only [go_sem,f1,decide_true,ib,w1,gA,gB]
         exact ⟨m - 1,by omega,k + 1,true,by omega,done true (by simp [signN,letterN,hA,hB]),rfl⟩
        ·have gB : (((b.toNat : Nat) : Int) ≤ 122) = False:= eq_false (by omega)
         have g48 : ((48 : Int) ≤ ((b.toNat : Nat) : Int)) = True:= eq_true (by omega)
         have g57 : (((b.toNat : Nat) : Int) ≤ 57) = False:= eq_false (by omega)
         have g45 : (((b.toNat : Nat) : Int) == 45) = false:= by simp only [beq_eq_false_iff_ne,ne_eq]; omega
         simp only [go_sem,f1,decide_true,decide_false,ib,w1,gA,gB,g48,g57,g45]
         exact ⟨m - 1,by omega,k + 1,false,by omega,done false (by simp [signN,letterN]; omega),rfl⟩
       ·have gA : ((97 : Int) ≤ ((b.toNat : Nat) : Int)) = False:= eq_false (by omega)
        by_cases h48 : 48 ≤ b.toNat
        ·have g48 : ((48 : Int) ≤ ((b.toNat : Nat) : Int)) = True:= eq_true (by omega)
         by_cases h57 : b.toNat ≤ 57
         ·have g57 : (((b.toNat : Nat) : Int) ≤ 57) = True:= eq_true (by omega)
          simp only [go_sem,f1,decide_true,decide_false,ib,w1,gA,g48,g57]
          exact ⟨m - 1,by omega,k + 1,true,by omega,done true (by simp [signN,h48,h57]),rfl⟩
         ·have g57 : (((b.toNat : Nat) : Int) ≤ 57) = False:= eq_false (by omega)
          have g45 : (((b.toNat : Nat) : Int) == 45) = false:= by simp only [beq_eq_false_iff_ne,ne_eq]; omega
          simp only [go_sem,f1,decide_true,decide_false,ib,w1,gA,g48,g57,g45]
          exact ⟨m - 1,by omega,k + 1,false,by omega,done false (by simp [signN,letterN]; omega),rfl⟩
        ·have g48 : ((48 : Int) ≤ ((b.toNat : Nat) : Int)) = False:= eq_false (by omega)
         by_cases h45 : b.toNat = 45
         ·have g45 : (((b.toNat : Nat) : Int) == 45) = true:= by rw [h45]; rfl
          simp only [go_sem,f1,decide_true,decide_false,ib,w1,gA,g48,g45]
          exact ⟨m - 1,by omega,k + 1,true,by omega,done true (by simp [signN,h45]),rfl⟩
         ·have g45 : (((b.toNat : Nat) : Int) == 45) = false:= by simp only [beq_eq_false_iff_ne,ne_eq]; omega
          simp only [go_sem,f1,decide_true,decide_false,ib,w1,gA,g48,g45]
          exact ⟨m - 1,by omega,k + 1,false,by omega,done false (by simp [signN,letterN]; omega),rfl⟩
     ·have f1 : ((k : Int) < (s.size : Int)) = False:= eq_false (by omega)
      rw [List.take_of_length_le (by omega),← hf] at hok
      rw [← hok]
      cases ok
      ·simp only [go_sem,f1,decide_false,nmCode,Bool.false_eq_true]
      ·simp only [go_sem,f1,decide_false,nmCode]
  ·have e2 : ((s.size : Int) ≤ 12) = False:= eq_false (by omega)
   have eF : fstOK l = false:= by simp [fstOK,h2]
   simp only [go_sem,e1,e2,decide_true,decide_false]
   refine aw_loop (fun m E => ∃ (k : Nat) (ok : Bool),k + m = l.length ∧ ok = (fstOK l && (l.take k).all fun b => signN b.toNat) ∧ E = mkE [(0,.lit (.string s)),(3,.lit (.bool ok)),(4,.lit (.int .i64 (k : Nat)))] []) l.length ?_ ?_
   ·exact ⟨0,_,by omega,rfl,by simp only [go_sem,eF,List.take_zero,List.all_nil,Bool.and_true]; rfl⟩
   ·rintro m _ ⟨k,ok,hk,hok,rfl⟩
    by_cases hkl : k < l.length
    ·have f1 : ((k : Int) < (s.size : Int)) = True:= eq_true (by omega)
     obtain ⟨b,hb⟩ : ∃ b,l[k]? = some b:= ⟨l[k],List.getElem?_eq_getElem hkl⟩
     have ib:= avIxs_l s .i64 k b (by rw [hL]; exact hb)
     have w1:= wrap_succ k (by omega)
     have hstep : (fstOK l && (l.take (k + 1)).all fun b => signN b.toNat) = (ok && signN b.toNat):= by
      rw [List.take_add_one,hb,List.all_append,hok,Bool.and_assoc]
      simp
     cases ok with
     | false =>
      simp only [go_sem,f1,decide_true,ib,w1]
      exact ⟨m - 1,by omega,k + 1,false,by omega,by rw [hstep]; rfl,rfl⟩
     | true =>
      have done : ∀ t : Bool,signN b.toNat = t → t = (fstOK l && (l.take (k + 1)).all fun b => signN b.toNat):= fun t ht => by rw [hstep,ht]; rfl
      by_cases hA : 97 ≤ b.toNat
      ·have gA : ((97 : Int) ≤ ((b.toNat : Nat) : Int)) = True:= eq_true (by omega)
       by_cases hB : b.toNat ≤ 122
       ·have gB : (((b.toNat : Nat) : Int) ≤ 122) = True:= eq_true (by omega)
        simp only [go_sem,f1,decide_true,ib,w1,gA,gB]
        exact ⟨m - 1,by omega,k + 1,true,by omega,done true (by simp [signN,letterN,hA,hB]),rfl⟩
       ·have gB : (((b.toNat : Nat) : Int) ≤ 122) = False:= eq_false (by omega)
        have g48 : ((48 : Int) ≤ ((b.toNat : Nat) : Int)) = True:= eq_true (by omega)
        have g57 : (((b.toNat : Nat) : Int) ≤ 57) = False:= eq_false (by omega)
        have g45 : (((b.toNat : Nat) : Int) == 45) = false:= by simp only [beq_eq_false_iff_ne,ne_eq]; omega
        simp only [go_sem,f1,decide_true,decide_false,ib,w1,gA,gB,g48,g57,g45]
        exact ⟨m - 1,by omega,k + 1,false,by omega,done false (by simp [signN,letterN]; omega),rfl⟩
      ·have gA : ((97 : Int) ≤ ((b.toNat : Nat) : Int)) = False:= eq_false (by omega)
       by_cases h48 : 48 ≤ b.toNat
       ·have g48 : ((48 : Int) ≤ ((b.toNat : Nat) : Int)) = True:= eq_true (by omega)
        by_cases h57 : b.toNat ≤ 57
        ·have g57 : (((b.toNat : Nat) : Int) ≤ 57) = True:= eq_true (by omega)
         simp only [go_sem,f1,decide_true,decide_false,ib,w1,gA,g48,g57]
         exact ⟨m - 1,by omega,k + 1,true,by omega,done true (by simp [signN,h48,h57]),rfl⟩
        ·have g57 : (((b.toNat : Nat) : Int) ≤ 57) = False:= eq_false (by omega)
         have g45 : (((b.toNat : Nat) : Int) == 45) = false:= by simp only [beq_eq_false_iff_ne,ne_eq]; omega
         simp only [go_sem,f1,decide_true,decide_false,ib,w1,gA,g48,g57,g45]
         exact ⟨m - 1,by omega,k + 1,false,by omega,done false (by simp [signN,letterN]; omega),rfl⟩
       ·have g48 : ((48 : Int) ≤ ((b.toNat : Nat) : Int)) = False:= eq_false (by omega)
        by_cases h45 : b.toNat = 45
        ·have g45 : (((b.toNat : Nat) : Int) == 45) = true:= by rw [h45]; rfl
         simp only [go_sem,f1,decide_true,decide_false,ib,w1,gA,g48,g45]
         exact ⟨m - 1,by omega,k + 1,true,by omega,done true (by simp [signN,h45]),rfl⟩
        ·have g45 : (((b.toNat : Nat) : Int) == 45) = false:= by simp only [beq_eq_false_iff_ne,ne_eq]; omega
         simp only [go_sem,f1,decide_true,decide_false,ib,w1,gA,g48,g45]
         exact ⟨m - 1,by omega,k + 1,false,by omega,done false (by simp [signN,letterN]; omega),rfl⟩
    ·have f1 : ((k : Int) < (s.size : Int)) = False:= eq_false (by omega)
     rw [List.take_of_length_le (by omega),← hf] at hok
     rw [← hok]
     cases ok
     ·simp only [go_sem,f1,decide_false,nmCode,Bool.false_eq_true]
     ·simp only [go_sem,f1,decide_false,nmCode]
 ·have e1 : ((1 : Int) ≤ (s.size : Int)) = False:= eq_false (by omega)
  have eF : fstOK l = false:= by
   have : decide (1 ≤ l.length) = false:= by simpa using h1
   simp only [fstOK,this,Bool.false_and]
  simp only [go_sem,e1,decide_true,decide_false]
  refine aw_loop (fun m E => ∃ (k : Nat) (ok : Bool),k + m = l.length ∧ ok = (fstOK l && (l.take k).all fun b => signN b.toNat) ∧ E = mkE [(0,.lit (.string s)),(3,.lit (.bool ok)),(4,.lit (.int .i64 (k : Nat)))] []) l.length ?_ ?_
  ·exact ⟨0,_,by omega,rfl,by simp only [go_sem,eF,List.take_zero,List.all_nil,Bool.and_true]; rfl⟩
  ·rintro m _ ⟨k,ok,hk,hok,rfl⟩
   by_cases hkl : k < l.length
   ·have f1 : ((k : Int) < (s.size : Int)) = True:= eq_true (by omega)
    obtain ⟨b,hb⟩ : ∃ b,l[k]? = some b:= ⟨l[k],List.getElem?_eq_getElem hkl⟩
    have ib:= avIxs_l s .i64 k b (by rw [hL]; exact hb)
    have w1:= wrap_succ k (by omega)
    have hstep : (fstOK l && (l.take (k + 1)).all fun b => signN b.toNat) = (ok && signN b.toNat):= by
     rw [List.take_add_one,hb,List.all_append,hok,Bool.and_assoc]
     simp
    cases ok with
    | false =>
     simp only [go_sem,f1,decide_true,ib,w1]
     exact ⟨m - 1,by omega,k + 1,false,by omega,by rw [hstep]; rfl,rfl⟩
    | true =>
     have done : ∀ t : Bool,signN b.toNat = t → t = (fstOK l && (l.take (k + 1)).all fun b => signN b.toNat):= fun t ht => by rw [hstep,ht]; rfl
     by_cases hA : 97 ≤ b.toNat
     ·have gA : ((97 : Int) ≤ ((b.toNat : Nat) : Int)) = True:= eq_true (by omega)
      by_cases hB : b.toNat ≤ 122
      ·have gB : (((b.toNat : Nat) : Int) ≤ 122) = True:= eq_true (by omega)
       simp only [go_sem,f1,decide_true,ib,w1,gA,gB]
       exact ⟨m - 1,by omega,k + 1,true,by omega,done true (by simp [signN,letterN,hA,hB]),rfl⟩
      ·have gB : (((b.toNat : Nat) : Int) ≤ 122) = False:= eq_false (by omega)
       have g48 : ((48 : Int) ≤ ((b.toNat : Nat) : Int)) = True:= eq_true (by omega)
       have g57 : (((b.toNat : Nat) : Int) ≤ 57) = False:= eq_false (by omega)
       have g45 : (((b.toNat : Nat) : Int) == 45) = false:= by simp only [beq_eq_false_iff_ne,ne_eq]; omega
       simp only [go_sem,f1,decide_true,decide_false,ib,w1,gA,gB,g48,g57,g45]
       exact ⟨m - 1,by omega,k + 1,false,by omega,done false (by simp [signN,letterN]; omega),rfl⟩
     ·have gA : ((97 : Int) ≤ ((b.toNat : Nat) : Int)) = False:= eq_false (by omega)
      by_cases h48 : 48 ≤ b.toNat
      ·have g48 : ((48 : Int) ≤ ((b.toNat : Nat) : Int)) = True:= eq_true (by omega)
       by_cases h57 : b.toNat ≤ 57
       ·have g57 : (((b.toNat : Nat) : Int) ≤ 57) = True:= eq_true (by omega)
        simp only [go_sem,f1,decide_true,decide_false,ib,w1,gA,g48,g57]
        exact ⟨m - 1,by omega,k + 1,true,by omega,done true (by simp [signN,h48,h57]),rfl⟩
       ·have g57 : (((b.toNat : Nat) : Int) ≤ 57) = False:= eq_false (by omega)
        have g45 : (((b.toNat : Nat) : Int) == 45) = false:= by simp only [beq_eq_false_iff_ne,ne_eq]; omega
        simp only [go_sem,f1,decide_true,decide_false,ib,w1,gA,g48,g57,g45]
        exact ⟨m - 1,by omega,k + 1,false,by omega,done false (by simp [signN,letterN]; omega),rfl⟩
      ·have g48 : ((48 : Int) ≤ ((b.toNat : Nat) : Int)) = False:= eq_false (by omega)
       by_cases h45 : b.toNat = 45
       ·have g45 : (((b.toNat : Nat) : Int) == 45) = true:= by rw [h45]; rfl
        simp only [go_sem,f1,decide_true,decide_false,ib,w1,gA,g48,g45]
        exact ⟨m - 1,by omega,k + 1,true,by omega,done true (by simp [signN,h45]),rfl⟩
       ·have g45 : (((b.toNat : Nat) : Int) == 45) = false:= by simp only [beq_eq_false_iff_ne,ne_eq]; omega
        simp only [go_sem,f1,decide_true,decide_false,ib,w1,gA,g48,g45]
        exact ⟨m - 1,by omega,k + 1,false,by omega,done false (by simp [signN,letterN]; omega),rfl⟩
   ·have f1 : ((k : Int) < (s.size : Int)) = False:= eq_false (by omega)
    rw [List.take_of_length_le (by omega),← hf] at hok
    rw [← hok]
    cases ok
    ·simp only [go_sem,f1,decide_false,nmCode,Bool.false_eq_true]
    ·simp only [go_sem,f1,decide_false,nmCode]
def codeG : Nat → Int
 | 0 => 104
 | 2 => 110
 | 3 => 103
 | 4 => 113
 | 5 => 111
 | 6 => 112
 | 7 => 109
 | _ => -1
def codeN : Option Nat → Int
 | none => 0
 | some g => codeG g
theorem C_rPlace (i n : Int) : AC Tryz.prog f_q168 [.lit (.int .i64 i),.lit (.int .i64 n)] (.lit (.bool (placeN i n))):= by
 refine ac_q168 ?_ (Nat.le_add_left 2 _)
 unfold placeN
 cases h : decide (0 ≤ i)
 ·simp only [go_sem,c_q168,h,Bool.false_and]
 ·simp only [go_sem,c_q168,h,Bool.true_and]
theorem C_rSameKey (a b c d : Nat) : AC Tryz.prog f_q171 [.agg [avU a,avU b],.agg [avU c,avU d]] (.lit (.bool (a == c && b == d))):= by
 refine ac_q171 ?_ (Nat.le_add_left 2 _)
 cases h : a == c <;> simp only [go_sem,c_q171,avU,nat_beqb,h,Bool.true_and,Bool.false_and]
theorem C_rSamePrefix (a : Nat) (b : Int) (c : Nat) (d : Int) : AC Tryz.prog f_q124 [avPfx a b,avPfx c d] (.lit (.bool (a == c && b == d))):= by
 refine ac_q124 ?_ (Nat.le_add_left 2 _)
 cases h : a == c <;> simp only [go_sem,c_q124,avPfx,avU,nat_beqb,h,Bool.true_and,Bool.false_and]
theorem b109 : ((109 : Int) != 0) = true:= rfl
theorem b000 : ((0 : Int) != 0) = false:= rfl
theorem R_router (w : NW) (h : w.OK) (i : Nat) (x : NRt) (hx : w.rts[i]? = some x) : AC Tryz.prog f_q102 [.agg (netV w),.lit (.int .i64 (i : Nat))] (.lit (.int .i64 (codeN (rtOf w.rts i x)))):= by
 have hi : i < w.rts.length:= (List.getElem?_eq_some_iff.1 hx).1
 have hl:= h.l1
 refine ac_q102 ?_ (Nat.le_add_left 2 _)
 simp only [go_sem,c_q102,netV,Int.toNat_natCast,Int.natCast_nonneg,List.getElem?_map,hx,rowAgg,avRouter,avStr]
 refine callX_of (C_r5Name x.nm (h.rtn x (List.mem_of_getElem? hx))) ?_
 cases h1 : nameOK x.nm.data.toList
 ·simp only [go_sem,nmCode,h1,rtOf,codeN,codeG,b109,Bool.false_eq_true]
 simp only [go_sem,nmCode,h1,b000]
 refine aw_loop (fun m E => ∃ k : Nat,k + m = i ∧ (∀ (j : Nat) (y : NRt),j < k → w.rts[j]? = some y → p_router_1 x y = false) ∧ E = mkE [(1,.lit (.int .i64 (i : Nat))),(2,.lp 2 0),(5,.lp 5 0),(6,.lit (.int .i64 (k : Nat)))] [(2,netV w),(5,[avStr x.nm,.lit (.int .i64 x.rank)])]) i ?_ ?_
 ·exact ⟨0,by omega,fun j y hj => absurd hj (Nat.not_lt_zero j),by simp only [go_sem,Int.natCast_zero]; rfl⟩
 ·rintro m _ ⟨k,hk,hall,rfl⟩
  by_cases hki : k < i
  ·have f1 : ((k : Int) < (i : Int)) = True:= eq_true (by omega)
   obtain ⟨y,hy⟩ : ∃ y,w.rts[k]? = some y:= ⟨w.rts[k],List.getElem?_eq_getElem (by omega)⟩
   have hw:= wrap_succ k (by omega)
   cases hp : p_router_1 x y
   ·have hp2 : (y.nm.toList == x.nm.toList) = false:= hp
    simp only [go_sem,f1,decide_true,netV,Int.toNat_natCast,Int.natCast_nonneg,List.getElem?_map,hy,rowAgg,avRouter,avStr,hp2,hw]
    refine ⟨m - 1,by omega,k + 1,by omega,fun j z hj hz => ?_,rfl⟩
    by_cases hjk : j = k
    ·subst hjk; rw [hy] at hz; injection hz with hz; rw [← hz]; exact hp
    ·exact hall j z (by omega) hz
   ·have hp2 : (y.nm.toList == x.nm.toList) = true:= hp
    simp only [go_sem,f1,decide_true,netV,Int.toNat_natCast,Int.natCast_nonneg,List.getElem?_map,hy,rowAgg,avRouter,avStr,hp2,rtOf,h1,any_take_some hki hy hp,codeN,codeG,Bool.true_eq_false]
  ·obtain rfl : k = i:= by omega
   have f1 : ((k : Int) < (k : Int)) = False:= eq_false (by omega)
   have hany:= any_take_none hall
   by_cases g1 : x.rank < 0
   ·have e : costN x.rank = false:= by simp only [costN]; simp; omega
    simp only [go_sem,f1,decide_false,avStr,g1,decide_true,rtOf,h1,hany,e,codeN,codeG,Bool.true_eq_false,Bool.false_eq_true]
   ·by_cases g2 : 65535 < x.rank
    ·have e : costN x.rank = false:= by simp only [costN]; simp; omega
     simp only [go_sem,f1,decide_false,avStr,g1,g2,decide_true,rtOf,h1,hany,e,codeN,codeG,Bool.true_eq_false,Bool.false_eq_true]
    ·have e : costN x.rank = true:= by simp only [costN]; simp; omega
     simp only [go_sem,f1,decide_false,avStr,g1,g2,rtOf,h1,hany,e,codeN,codeG,Bool.true_eq_false,Bool.false_eq_true]
end Go.Proofs.YtnndbbmidoidpaaGreatDoor.VL
end

section
set_option maxHeartbeats 4000000
namespace Go.Proofs.YtnndbbmidoidpaaGreatDoor.VL
open Go.RowKit Go.Proofs
theorem R_link (w : NW) (h : w.OK) (i : Nat) (x : NLk) (hx : w.lks[i]? = some x) : AC Tryz.prog f_q103 [.agg (netV w),.lit (.int .i64 (i : Nat))] (.lit (.int .i64 (codeN (lkOf w.lks i x)))):= by
 have hi : i < w.lks.length:= (List.getElem?_eq_some_iff.1 hx).1
 have hl:= h.l2
 have ha:= h.lka x (List.mem_of_getElem? hx)
 refine ac_q103 ?_ (Nat.le_add_left 2 _)
 simp only [go_sem,c_q103,netV,Int.toNat_natCast,Int.natCast_nonneg,List.getElem?_map,hx,rowAgg,avLink,avStr,avU]
 refine callX_of (C_r5Name x.nm (h.lkn x (List.mem_of_getElem? hx))) ?_
 cases h1 : nameOK x.nm.data.toList
 ·simp only [go_sem,nmCode,h1,lkOf,codeN,codeG,b109,Bool.false_eq_true]
 simp only [go_sem,nmCode,h1,b000]
 refine aw_loop (fun m E => ∃ k : Nat,k + m = i ∧ (∀ (j : Nat) (y : NLk),j < k → w.lks[j]? = some y → p_link_1 x y = false) ∧ E = mkE [(1,.lit (.int .i64 (i : Nat))),(2,.lp 2 0),(5,.lp 5 0),(6,.lit (.int .i64 (k : Nat)))] [(2,netV w),(5,[avStr x.nm,avU x.a,.lit (.int .i64 x.b)])]) i ?_ ?_
 ·exact ⟨0,by omega,fun j y hj => absurd hj (Nat.not_lt_zero j),by simp only [go_sem,Int.natCast_zero]; rfl⟩
 ·rintro m _ ⟨k,hk,hall,rfl⟩
  by_cases hki : k < i
  ·have f1 : ((k : Int) < (i : Int)) = True:= eq_true (by omega)
   obtain ⟨y,hy⟩ : ∃ y,w.lks[k]? = some y:= ⟨w.lks[k],List.getElem?_eq_getElem (by omega)⟩
   have hw:= wrap_succ k (by omega)
   cases hp : p_link_1 x y
   ·have hp2 : (y.nm.toList == x.nm.toList) = false:= hp
    simp only [go_sem,f1,decide_true,netV,Int.toNat_natCast,Int.natCast_nonneg,List.getElem?_map,hy,rowAgg,avLink,avStr,avU,hp2,hw]
    refine ⟨m - 1,by omega,k + 1,by omega,fun j z hj hz => ?_,rfl⟩
    by_cases hjk : j = k
    ·subst hjk; rw [hy] at hz; injection hz with hz; rw [← hz]; exact hp
    ·exact hall j z (by omega) hz
   ·have hp2 : (y.nm.toList == x.nm.toList) = true:= hp
    simp only [go_sem,f1,decide_true,netV,Int.toNat_natCast,Int.natCast_nonneg,List.getElem?_map,hy,rowAgg,avLink,avStr,avU,hp2,lkOf,h1,any_take_some hki hy hp,codeN,codeG,Bool.true_eq_false]
  ·obtain rfl : k = i:= by omega
   have f1 : ((k : Int) < (k : Int)) = False:= eq_false (by omega)
   have hany:= any_take_none hall
   have hV:= C_rValid x.a x.b ha
   have hW1:= C_rWithin x.a x.b 3758096384 4 ha (by decide)
   have hW2:= C_rWithin 3758096384 4 x.a x.b (by decide) ha
   have hG:= C_rGroups
   simp only [avPfx,avU] at hV hW1 hW2 hG
   simp only [go_sem,f1,decide_false,avStr,avU]
   refine callX_of hV ?_
   cases h3 : validN x.a x.b
   ·simp only [go_sem,lkOf,h1,hany,h3,codeN,codeG,Bool.not_false,Bool.true_eq_false,Bool.false_eq_true]
   simp only [go_sem,Bool.not_true]
   refine callX_of hG ?_
   simp only [go_sem]
   refine callX_of hW1 ?_
   cases h4 : withinN x.a x.b 3758096384 4
   case true => simp only [go_sem,lkOf,h1,hany,h3,h4,codeN,codeG,Bool.true_or,Bool.true_eq_false,Bool.false_eq_true]
   simp only [go_sem]
   refine callX_of hG ?_
   simp only [go_sem]
   refine callX_of hW2 ?_
   cases h5 : withinN 3758096384 4 x.a x.b <;> simp only [go_sem,lkOf,h1,hany,h3,h4,h5,codeN,codeG,Bool.or_true,Bool.or_false,Bool.true_eq_false,Bool.false_eq_true]
theorem at_link {w : NW} {lk : Int} (h : placeN lk w.lks.length = true) : ∃ (q : Nat) (y : NLk),lk = (q : Int) ∧ w.lks[q]? = some y:= by
 simp only [placeN,Bool.and_eq_true,decide_eq_true_eq] at h
 exact ⟨lk.toNat,w.lks[lk.toNat]'(by omega),by omega,List.getElem?_eq_getElem (by omega)⟩
theorem onAt_net {w : NW} {lk : Int} {q : Nat} {y : NLk} (a : Nat) (e : lk = (q : Int)) (hy : w.lks[q]? = some y) : onAt w.net lk a = onN y a:= by
 simp only [onAt,NW.net,Option.getD_some,e,Int.toNat_natCast,hy]
theorem nb0 (a : Nat) : ((a : Int) == 0) = (a == 0):= by
 rw [Bool.eq_iff_iff]; simp
theorem R_port (w : NW) (h : w.OK) (i : Nat) (x : NPt) (hx : w.pts[i]? = some x) : AC Tryz.prog f_q104 [.agg (netV w),.lit (.int .i64 (i : Nat))] (.lit (.int .i64 (codeN (ptOf w.net w.pts i x)))):= by
  have hi : i < w.pts.length:= (List.getElem?_eq_some_iff.1 hx).1
  have hl:= h.l3
  have ha:= h.pta x (List.mem_of_getElem? hx)
  refine ac_q104 ?_ (Nat.le_add_left 2 _)
  simp only [go_sem,c_q104,netV,Int.toNat_natCast,Int.natCast_nonneg,List.getElem?_map,hx,rowAgg,avPort,avU,List.length_map]
  refine callX_of (C_rPlace x.rt w.rts.length) ?_
  cases h1 : placeN x.rt w.rts.length
  · simp only [go_sem,h1,ptOf,rt_len,lk_len,codeN,codeG,Bool.not_false,Bool.false_and]
  simp only [go_sem,h1,Bool.not_true,List.length_map]
  refine callX_of (C_rPlace x.lk w.lks.length) ?_
  cases h2 : placeN x.lk w.lks.length
  · simp only [go_sem,h1,h2,ptOf,rt_len,lk_len,codeN,codeG,Bool.not_false,Bool.and_false]
  obtain ⟨q,y0,hq,hy0⟩:= at_link h2
  have hat:= onAt_net x.a hq hy0
  have hI:= C_rIn y0.a y0.b x.a (h.lka y0 (List.mem_of_getElem? hy0)) ha
  simp only [avPfx,avU] at hI
  cases h3 : x.a == 0
  case true =>
    have e : onN y0 x.a = false:= by simp only [onN,h3,Bool.not_true,Bool.false_and]
    simp only [go_sem,h1,h2,Bool.not_true,nb0,h3,ptOf,rt_len,lk_len,hat,e,codeN,codeG,Bool.and_self,Bool.true_eq_false]
  simp only [go_sem,Bool.not_true,nb0,h3,hq,hy0,Int.toNat_natCast,Int.natCast_nonneg,List.getElem?_map,rowAgg,avLink,avStr,avU]
  refine callX_of hI ?_
  cases h4 : inN y0.a y0.b x.a
  · have e : onN y0 x.a = false:= by simp only [onN,h4,Bool.and_false]
    simp only [go_sem,h1,h2,Bool.not_false,ptOf,rt_len,lk_len,← hq,hat,e,codeN,codeG,Bool.and_self,Bool.true_eq_false]
  have e : onN y0 x.a = true:= by simp only [onN,h3,h4,Bool.not_false,Bool.and_self]
  simp only [go_sem,Bool.not_true]
  refine aw_loop (fun m E => ∃ k : Nat,k + m = i ∧ (∀ (j : Nat) (y : NPt),j < k → w.pts[j]? = some y → p_port_1 x y = false) ∧ E = mkE [(1,.lit (.int .i64 (i : Nat))),(2,.lp 2 0),(5,.lp 5 0),(6,.lit (.int .i64 (k : Nat)))] [(2,netV w),(5,[.lit (.int .i64 x.rt),.lit (.int .i64 x.lk),avU x.a])]) i ?_ ?_
  · exact ⟨0,by omega,fun j y hj => absurd hj (Nat.not_lt_zero j),by simp only [go_sem,Int.natCast_zero,hq]; rfl⟩
  · rintro m _ ⟨k,hk,hall,rfl⟩
    by_cases hki : k < i
    · have f1 : ((k : Int) < (i : Int)) = True:= eq_true (by omega)
      obtain ⟨y,hy⟩ : ∃ y,w.pts[k]? = some y:= ⟨w.pts[k],List.getElem?_eq_getElem (by omega)⟩
      have hw:= wrap_succ k (by omega)
      have go : p_port_1 x y = false → ∀ (j : Nat) (z : NPt),j < k + 1 → w.pts[j]? = some z → p_port_1 x z = false:= fun hp j z hj hz => by
        by_cases hjk : j = k
        · subst hjk; rw [hy] at hz; injection hz with hz; rw [← hz]; exact hp
        · exact hall j z (by omega) hz
      cases e0 : (y.a == x.a) <;> cases e1 : (y.rt == x.rt) <;> cases e2 : (y.lk == x.lk) <;> simp only [go_sem,f1,decide_true,netV,Int.toNat_natCast,Int.natCast_nonneg,List.getElem?_map,hy,rowAgg,avPort,avU,nat_beqb,e0,e1,e2,hw]
      all_goals first
        | exact ⟨m - 1,by omega,k + 1,by omega,go (by simp only [p_port_1,e0,e1,e2]; rfl),rfl⟩
        | (have hp : p_port_1 x y = true:= by simp only [p_port_1,e0,e1,e2]; rfl
           simp only [ptOf,rt_len,lk_len,h1,h2,← hq,hat,e,any_take_some hki hy hp,codeN,codeG,Bool.and_self,Bool.true_eq_false,if_false,if_true])
    · obtain rfl : k = i:= by omega
      have f1 : ((k : Int) < (k : Int)) = False:= eq_false (by omega)
      have hany:= any_take_none hall
      simp only [go_sem,f1,decide_false,ptOf,rt_len,lk_len,h1,h2,← hq,hat,e,hany,codeN,codeG,Bool.and_self,Bool.true_eq_false,Bool.false_eq_true]
theorem R_route (w : NW) (h : w.OK) (i : Nat) (x : NRo) (hx : w.ros[i]? = some x) : AC Tryz.prog f_q105 [.agg (netV w),.lit (.int .i64 (i : Nat))] (.lit (.int .i64 (codeN (roOf w.net x)))):= by
 have hi : i < w.ros.length:= (List.getElem?_eq_some_iff.1 hx).1
 have hl:= h.l4
 have ha:= h.roa x (List.mem_of_getElem? hx)
 have hv:= h.rov x (List.mem_of_getElem? hx)
 refine ac_q105 ?_ (Nat.le_add_left 2 _)
 simp only [go_sem,c_q105,netV,Int.toNat_natCast,Int.natCast_nonneg,List.getElem?_map,hx,rowAgg,avRoute,avU,List.length_map]
 refine callX_of (C_rPlace x.rt w.rts.length) ?_
 cases h1 : placeN x.rt w.rts.length
 ·simp only [go_sem,h1,roOf,rt_len,codeN,codeG,Bool.not_false]
 have hV:= C_rValid x.a x.b ha
 simp only [avPfx,avU] at hV
 simp only [go_sem,h1,Bool.not_true]
 refine callX_of hV ?_
 cases h3 : validN x.a x.b
 ·simp only [go_sem,roOf,rt_len,h1,h3,codeN,codeG,Bool.not_false,Bool.false_and,Bool.true_eq_false,Bool.false_eq_true]
 have hG:= C_rGroup x.via hv
 simp only [avU] at hG
 have kind : hostN x.via = false → roOf w.net x = some 4 ∨ costN x.cost = false:= fun hh => by
  cases hc : costN x.cost
  ·exact .inr rfl
  ·left; simp only [roOf,rt_len,h1,h3,hc,hh,Bool.and_self,Bool.true_eq_false,if_false,if_true]
 by_cases g1 : x.cost < 0
 ·have e : costN x.cost = false:= by simp only [costN]; simp; omega
  simp only [go_sem,Bool.not_true,g1,decide_true,roOf,rt_len,h1,h3,e,codeN,codeG,Bool.and_false,Bool.true_eq_false]
 by_cases g2 : 65535 < x.cost
 ·have e : costN x.cost = false:= by simp only [costN]; simp; omega
  simp only [go_sem,Bool.not_true,g1,g2,decide_true,decide_false,roOf,rt_len,h1,h3,e,codeN,codeG,Bool.and_false,Bool.true_eq_false]
 have e : costN x.cost = true:= by simp only [costN]; simp; omega
 simp only [go_sem,Bool.not_true,g1,g2,decide_false]
 refine callX_of hG ?_
 cases h4 : groupN x.via
 ·cases h5 : x.via == 0
  ·have eh : hostN x.via = true:= by simp only [hostN,h4,h5,Bool.not_false,Bool.and_self]
   simp only [go_sem,nb0,h5,roOf,rt_len,h1,h3,e,eh,codeN,codeG,Bool.and_self,Bool.true_eq_false]
  ·have eh : hostN x.via = false:= by simp only [hostN,h5,Bool.not_true,Bool.false_and]
   simp only [go_sem,nb0,h5,roOf,rt_len,h1,h3,e,eh,codeN,codeG,Bool.and_self,Bool.true_eq_false]
 ·have eh : hostN x.via = false:= by simp only [hostN,h4,Bool.not_true,Bool.and_false]
  simp only [go_sem,roOf,rt_len,h1,h3,e,eh,codeN,codeG,Bool.and_self,Bool.true_eq_false]
theorem R_groups (w : NW) (h : w.OK) (i : Nat) (x : NRg) (hx : w.rgs[i]? = some x) : AC Tryz.prog f_q106 [.agg (netV w),.lit (.int .i64 (i : Nat))] (.lit (.int .i64 (codeN (rgOf w.rgs i x)))):= by
 have hi : i < w.rgs.length:= (List.getElem?_eq_some_iff.1 hx).1
 have hl:= h.l5
 have ha:= h.rga x (List.mem_of_getElem? hx)
 have hv:= h.rgr x (List.mem_of_getElem? hx)
 have hV:= C_rValid x.a x.b ha
 have hW1:= C_rWithin x.a x.b 3758096384 4 ha (by decide)
 have hG:= C_rGroups
 have hR:= C_rGroup x.root hv
 simp only [avPfx,avU] at hV hW1 hG hR
 refine ac_q106 ?_ (Nat.le_add_left 2 _)
 simp only [go_sem,c_q106,netV,Int.toNat_natCast,Int.natCast_nonneg,List.getElem?_map,hx,rowAgg,avRange,avU,List.length_map]
 refine callX_of hV ?_
 cases h1 : validN x.a x.b
 ·simp only [go_sem,h1,rgOf,codeN,codeG,Bool.not_false]
 simp only [go_sem,Bool.not_true]
 refine callX_of hG ?_
 simp only [go_sem]
 refine callX_of hW1 ?_
 cases h2 : withinN x.a x.b 3758096384 4
 ·simp only [go_sem,h1,h2,rgOf,codeN,codeG,Bool.not_false,Bool.false_and,Bool.true_eq_false]
 simp only [go_sem,Bool.not_true]
 refine callX_of hR ?_
 cases h4 : groupN x.root
 case true =>
  have eh : hostN x.root = false:= by simp only [hostN,h4,Bool.not_true,Bool.and_false]
  simp only [go_sem,h1,h2,eh,rgOf,codeN,codeG,Bool.and_false,Bool.true_eq_false]
 cases h5 : x.root == 0
 case true =>
  have eh : hostN x.root = false:= by simp only [hostN,h5,Bool.not_true,Bool.false_and]
  simp only [go_sem,nb0,h5,h1,h2,eh,rgOf,codeN,codeG,Bool.and_false,Bool.true_eq_false]
 have eh : hostN x.root = true:= by simp only [hostN,h4,h5,Bool.not_false,Bool.and_self]
 simp only [go_sem,nb0,h5]
 refine aw_loop (fun m E => ∃ k : Nat,k + m = i ∧ (∀ (j : Nat) (y : NRg),j < k → w.rgs[j]? = some y → p_ranges_1 x y = false) ∧ E = mkE [(1,.lit (.int .i64 (i : Nat))),(2,.lp 2 0),(5,.lp 5 0),(6,.lit (.int .i64 (k : Nat)))] [(2,netV w),(5,[avU x.a,.lit (.int .i64 x.b),avU x.root])]) i ?_ ?_
 ·exact ⟨0,by omega,fun j y hj => absurd hj (Nat.not_lt_zero j),by simp only [go_sem,Int.natCast_zero]; rfl⟩
 ·rintro m _ ⟨k,hk,hall,rfl⟩
  by_cases hki : k < i
  ·have f1 : ((k : Int) < (i : Int)) = True:= eq_true (by omega)
   obtain ⟨y,hy⟩ : ∃ y,w.rgs[k]? = some y:= ⟨w.rgs[k],List.getElem?_eq_getElem (by omega)⟩
   have hw:= wrap_succ k (by omega)
   have hS:= C_rSamePrefix y.a y.b x.a x.b
   simp only [avPfx,avU] at hS
   simp only [go_sem,f1,decide_true,netV,Int.toNat_natCast,Int.natCast_nonneg,List.getElem?_map,hy,rowAgg,avRange,avU]
   refine callX_of hS ?_
   cases hp : p_ranges_1 x y
   ·have hp2 : (y.a == x.a && y.b == x.b) = false:= hp
    simp only [go_sem,hp2,hw]
    refine ⟨m - 1,by omega,k + 1,by omega,fun j z hj hz => ?_,rfl⟩
    by_cases hjk : j = k
    ·subst hjk; rw [hy] at hz; injection hz with hz; rw [← hz]; exact hp
    ·exact hall j z (by omega) hz
   ·have hp2 : (y.a == x.a && y.b == x.b) = true:= hp
    simp only [go_sem,hp2,rgOf,h1,h2,eh,any_take_some hki hy hp,codeN,codeG,Bool.and_self,Bool.true_eq_false]
  ·obtain rfl : k = i:= by omega
   have f1 : ((k : Int) < (k : Int)) = False:= eq_false (by omega)
   have hany:= any_take_none hall
   simp only [go_sem,f1,decide_false,rgOf,h1,h2,eh,hany,codeN,codeG,Bool.and_self,Bool.true_eq_false,Bool.false_eq_true]
theorem R_source (w : NW) (h : w.OK) (i : Nat) (x : NSc) (hx : w.scs[i]? = some x) : AC Tryz.prog f_q107 [.agg (netV w),.lit (.int .i64 (i : Nat))] (.lit (.int .i64 (codeN (scOf w.net w.scs i x)))):= by
  have hi : i < w.scs.length:= (List.getElem?_eq_some_iff.1 hx).1
  have hl:= h.l6
  have hl3:= h.l3
  have ha:= h.scs x (List.mem_of_getElem? hx)
  have hg:= h.scg x (List.mem_of_getElem? hx)
  refine ac_q107 ?_ (Nat.le_add_left 2 _)
  simp only [go_sem,c_q107,netV,Int.toNat_natCast,Int.natCast_nonneg,List.getElem?_map,hx,rowAgg,avSource,avU,List.length_map]
  refine callX_of (C_rPlace x.lk w.lks.length) ?_
  cases h2 : placeN x.lk w.lks.length
  · simp only [go_sem,h2,scOf,lk_len,codeN,codeG,Bool.not_false]
  obtain ⟨q,y0,hq,hy0⟩:= at_link h2
  have hat:= onAt_net x.s hq hy0
  have hI:= C_rIn y0.a y0.b x.s (h.lka y0 (List.mem_of_getElem? hy0)) ha
  have hG:= C_rGroup x.g hg
  simp only [avPfx,avU] at hI hG
  cases h3 : x.s == 0
  case true =>
    have e : onN y0 x.s = false:= by simp only [onN,h3,Bool.not_true,Bool.false_and]
    simp only [go_sem,h2,Bool.not_true,nb0,h3,scOf,lk_len,hat,e,codeN,codeG,Bool.true_eq_false]
  simp only [go_sem,Bool.not_true,nb0,h3,hq,hy0,Int.toNat_natCast,Int.natCast_nonneg,List.getElem?_map,rowAgg,avLink,avStr,avU]
  refine callX_of hI ?_
  cases h4 : inN y0.a y0.b x.s
  · have e : onN y0 x.s = false:= by simp only [onN,h4,Bool.and_false]
    simp only [go_sem,h2,Bool.not_false,scOf,lk_len,← hq,hat,e,codeN,codeG,Bool.true_eq_false]
  have e : onN y0 x.s = true:= by simp only [onN,h3,h4,Bool.not_false,Bool.and_self]
  simp only [go_sem,Bool.not_true]
  refine callX_of hG ?_
  cases h5 : groupN x.g
  · simp only [go_sem,h2,Bool.not_false,scOf,lk_len,← hq,hat,e,h5,codeN,codeG,Bool.true_eq_false]
  simp only [go_sem,Bool.not_true]
  refine aw_loop (fun m E => ∃ k : Nat,k + m = i ∧ (∀ (j : Nat) (y : NSc),j < k → w.scs[j]? = some y → p_source_1 x y = false) ∧ E = mkE [(1,.lit (.int .i64 (i : Nat))),(2,.lp 2 0),(5,.lp 5 0),(6,.lit (.int .i64 (k : Nat)))] [(2,netV w),(5,[.lit (.int .i64 x.lk),avU x.s,avU x.g])]) i ?_ ?_
  · exact ⟨0,by omega,fun j y hj => absurd hj (Nat.not_lt_zero j),by simp only [go_sem,Int.natCast_zero,← hq]; rfl⟩
  · rintro m _ ⟨k,hk,hall,rfl⟩
    by_cases hki : k < i
    · have f1 : ((k : Int) < (i : Int)) = True:= eq_true (by omega)
      obtain ⟨y,hy⟩ : ∃ y,w.scs[k]? = some y:= ⟨w.scs[k],List.getElem?_eq_getElem (by omega)⟩
      have hw:= wrap_succ k (by omega)
      have hS:= C_rSameKey y.s y.g x.s x.g
      simp only [avU] at hS
      have go : p_source_1 x y = false → ∀ (j : Nat) (z : NSc),j < k + 1 → w.scs[j]? = some z → p_source_1 x z = false:= fun hp j z hj hz => by
        by_cases hjk : j = k
        · subst hjk; rw [hy] at hz; injection hz with hz; rw [← hz]; exact hp
        · exact hall j z (by omega) hz
      simp only [go_sem,f1,decide_true,netV,Int.toNat_natCast,Int.natCast_nonneg,List.getElem?_map,hy,rowAgg,avSource,avU]
      refine callX_of hS ?_
      cases e0 : (y.s == x.s) <;> cases e1 : (y.g == x.g) <;> cases e2 : (y.lk == x.lk) <;> simp only [go_sem,nat_beqb,e0,e1,e2,hw,bne,Bool.true_and,Bool.false_and,Bool.not_true,Bool.not_false]
      all_goals first
        | exact ⟨m - 1,by omega,k + 1,by omega,go (by simp only [p_source_1,e0,e1,e2,bne]; rfl),rfl⟩
        | (have hp : p_source_1 x y = true:= by simp only [p_source_1,e0,e1,e2,bne]; rfl
           simp only [scOf,lk_len,h2,← hq,hat,e,h5,any_take_some hki hy hp,codeN,codeG,Bool.true_or,Bool.true_eq_false,if_false,if_true])
    · obtain rfl : k = i:= by omega
      have f1 : ((k : Int) < (k : Int)) = False:= eq_false (by omega)
      have hany:= any_take_none hall
      simp only [go_sem,f1,decide_false]
      refine aw_loop (fun m E => ∃ j : Nat,j + m = w.pts.length ∧ (∀ (r : Nat) (y : NPt),r < j → w.pts[r]? = some y → p_source_2 x y = false) ∧ E = mkE [(2,.lp 2 0),(5,.lp 5 0),(8,.lit (.int .i64 (j : Nat)))] [(2,netV w),(5,[.lit (.int .i64 x.lk),avU x.s,avU x.g])]) w.pts.length ?_ ?_
      · exact ⟨0,by omega,fun j y hj => absurd hj (Nat.not_lt_zero j),by simp only [go_sem,Int.natCast_zero]⟩
      · rintro m _ ⟨j,hj,hall2,rfl⟩
        by_cases hjl : j < w.pts.length
        · have f2 : ((j : Int) < (w.pts.length : Int)) = True:= eq_true (by omega)
          obtain ⟨y,hy⟩ : ∃ y,w.pts[j]? = some y:= ⟨w.pts[j],List.getElem?_eq_getElem hjl⟩
          have hw:= wrap_succ j (by omega)
          cases hp : p_source_2 x y
          · have hp2 : (y.a == x.s) = false:= hp
            simp only [go_sem,f2,decide_true,netV,Int.toNat_natCast,Int.natCast_nonneg,List.getElem?_map,List.length_map,hy,rowAgg,avPort,avU,nat_beqb,hp2,hw]
            refine ⟨m - 1,by omega,j + 1,by omega,fun r z hr hz => ?_,rfl⟩
            by_cases hrj : r = j
            · subst hrj; rw [hy] at hz; injection hz with hz; rw [← hz]; exact hp
            · exact hall2 r z (by omega) hz
          · have hp2 : (y.a == x.s) = true:= hp
            have hany2 : w.pts.any (p_source_2 x) = true:= List.any_eq_true.2 ⟨y,List.mem_of_getElem? hy,hp⟩
            simp only [go_sem,f2,decide_true,netV,Int.toNat_natCast,Int.natCast_nonneg,List.getElem?_map,List.length_map,hy,rowAgg,avPort,avU,nat_beqb,hp2,scOf,lk_len,pt_net,h2,hat,e,h5,hany2,codeN,codeG,Bool.or_true,Bool.true_eq_false]
        · have f2 : ((j : Int) < (w.pts.length : Int)) = False:= eq_false (by omega)
          have hany2 : w.pts.any (p_source_2 x) = false:= by
            have:= any_take_none (p:= p_source_2 x) (l:= w.pts) (i:= j) hall2
            rwa [List.take_of_length_le (by omega)] at this
          simp only [go_sem,f2,decide_false,netV,List.length_map,scOf,lk_len,pt_net,h2,hat,e,h5,hany,hany2,codeN,codeG,Bool.or_self,Bool.true_eq_false,Bool.false_eq_true]
end Go.Proofs.YtnndbbmidoidpaaGreatDoor.VL
end

section
set_option maxHeartbeats 4000000
namespace Go.Proofs.YtnndbbmidoidpaaGreatDoor.VL
open Go.RowKit Go.Proofs
theorem C_HasU (t : Tok) (e : Nat) (l : List Nat) (a : Nat) (hf : frB t = false) (he : e = 1 ∨ l = []) (hl : l.length < 9223372036854775808) : AC Tryz.prog f_q172 [.sl t e (l.map avU),avU a] (.lit (.bool (l.any fun y => y == a))):= by
 refine ac_q172 ?_ (Nat.le_add_left 2 _)
 simp only [go_sem,c_q172,avU]
 refine aw_loop (fun m E => ∃ k,k + m = l.length ∧ (∀ (j : Nat) (y : Nat),j < k → l[j]? = some y → (y == a) = false) ∧ E = mkE [(0,.sl t e (l.map avU)),(1,avU a),(5,.lit (.int .i64 (k : Nat)))] []) l.length ?_ ?_
 ·exact ⟨0,by omega,fun j y hj => absurd hj (Nat.not_lt_zero j),by simp only [go_sem,Int.ofNat_zero,avU]⟩
 ·rintro m _ ⟨k,hk,hall,rfl⟩
  by_cases hkl : k < l.length
  ·have f1 : ((k : Int) < (l.length : Int)) = True:= eq_true (by omega)
   obtain rfl : e = 1:= he.resolve_right (fun h => by rw [h] at hkl; simp at hkl)
   obtain ⟨x,hx⟩ : ∃ x,l[k]? = some x:= ⟨l[k],List.getElem?_eq_getElem hkl⟩
   have hw:= wrap_succ k (by omega)
   have hr:= fun x => avRow_some 1 t (AV.lit x) hf
   cases hp : x == a
   ·simp only [go_sem,f1,decide_true,hx,Int.toNat_natCast,Int.natCast_nonneg,List.length_map,List.getElem?_map,Option.map_some,hr,avU,nat_beqb,hp,hw]
    refine ⟨m - 1,by omega,k + 1,by omega,fun j y hj hy => ?_,rfl⟩
    by_cases hjk : j = k
    ·subst hjk; rw [hx] at hy; injection hy with hy; rw [← hy]; exact hp
    ·exact hall j y (by omega) hy
   ·have e : (l.any fun y => y == a) = true:= List.any_eq_true.2 ⟨x,List.mem_of_getElem? hx,hp⟩
    simp only [go_sem,f1,decide_true,hx,Int.toNat_natCast,Int.natCast_nonneg,List.length_map,List.getElem?_map,Option.map_some,hr,avU,nat_beqb,hp,e]
  ·have f1 : ((k : Int) < (l.length : Int)) = False:= eq_false (by omega)
   have e : (l.any fun y => y == a) = false:= by
    have:= any_take_none (p:= fun y => y == a) (l:= l) (i:= k) hall
    rwa [List.take_of_length_le (by omega)] at this
   simp only [go_sem,f1,decide_false,List.length_map,e]
theorem nodup_of {l : List Nat} (h : ∀ (j y : Nat),l[j]? = some y → ((l.take j).any fun z => z == y) = false) : l.Nodup:= by
 rw [List.nodup_iff_pairwise_ne,List.pairwise_iff_getElem]
 intro i j hi hj hij e
 have:= h j l[j] (List.getElem?_eq_getElem hj)
 rw [List.any_eq_false] at this
 have hm : l[i] ∈ l.take j:= List.mem_iff_getElem.2 ⟨i,by simp; omega,by rw [List.getElem_take]⟩
 exact this _ hm (by simp [e])
theorem not_nodup_of {l : List Nat} {j y : Nat} (hy : l[j]? = some y) (h : ((l.take j).any fun z => z == y) = true) : ¬ l.Nodup:= by
 intro hn
 obtain ⟨z,hz,e⟩:= List.any_eq_true.1 h
 obtain ⟨i,hi,e2⟩:= List.mem_iff_getElem.1 hz
 simp only [List.length_take] at hi
 rw [List.getElem_take] at e2
 obtain ⟨h1,h2⟩:= List.getElem?_eq_some_iff.1 hy
 rw [List.nodup_iff_pairwise_ne,List.pairwise_iff_getElem] at hn
 exact hn i j (by omega) h1 (by omega) (by rw [e2,h2]; simpa using e)
theorem R_member (w : NW) (h : w.OK) (i : Nat) (x : NM) (hx : w.mbs[i]? = some x) : AC Tryz.prog f_q108 [.agg (netV w),.lit (.int .i64 (i : Nat))] (.lit (.int .i64 (codeN (mbOf w x)))):= by
 have hi : i < w.mbs.length:= (List.getElem?_eq_some_iff.1 hx).1
 have hm : x ∈ w.mbs:= List.mem_of_getElem? hx
 have hG:= C_rGroup x.g (h.mbg x hm)
 have hsl:= h.mbl x hm
 simp only [avU] at hG
 refine ac_q108 ?_ (Nat.le_add_left 2 _)
 simp only [go_sem,c_q108,netV,Int.toNat_natCast,Int.natCast_nonneg,List.getElem?_map,hx,rowAgg,avMb,avU,List.length_map]
 refine callX_of (C_rPlace x.lk w.lks.length) ?_
 cases h2 : placeN x.lk w.lks.length
 ·simp only [go_sem,h2,mbOf,codeN,codeG,Bool.not_false]
 simp only [go_sem,Bool.not_true]
 refine callX_of hG ?_
 simp only [go_sem]
 have step : ∀ (k a : Nat),x.src[k]? = some a → (!groupN x.g || (x.src.take (k + 1)).any fun a => !hostN a) = ((!groupN x.g || (x.src.take k).any fun a => !hostN a) || !hostN a):= by
  intro k a ha
  rw [List.take_add_one,ha,List.any_append]
  simp [Bool.or_assoc]
 refine aw_loop (fun m E => ∃ k : Nat,k + m = x.src.length ∧ E = mkE [(5,.lp 5 0),(6,.lit (.bool (!groupN x.g || (x.src.take k).any fun a => !hostN a))),(7,.lit (.int .i64 (k : Nat)))] [(2,netV w),(5,[.lit (.int .i64 x.lk),avU x.g,.lit (.bool x.only),.sl .none 1 (x.src.map avU)])]) x.src.length ?_ ?_
 ·exact ⟨0,by omega,by simp only [go_sem,Int.natCast_zero,List.take_zero,List.any_nil]; rfl⟩
 ·rintro m _ ⟨k,hk,rfl⟩
  by_cases hkl : k < x.src.length
  ·have f1 : ((k : Int) < (x.src.length : Int)) = True:= eq_true (by omega)
   obtain ⟨a,ha⟩ : ∃ a,x.src[k]? = some a:= ⟨x.src[k],List.getElem?_eq_getElem hkl⟩
   have hw:= wrap_succ k (by omega)
   have hr:= fun x => avRow_some 1 .none (AV.lit x) rfl
   have hA:= C_rGroup a (h.mbs x hm a (List.mem_of_getElem? ha))
   simp only [avU] at hA
   have hs:= step k a ha
   generalize hb : (!groupN x.g || (x.src.take k).any fun a => !hostN a) = b at hs
   have next : ∀ b',b' = (b || !hostN a) → mkE [(5,.lp 5 0),(6,.lit (.bool b')),(7,.lit (.int .i64 ((k + 1 : Nat) : Int)))] [(2,netV w),(5,[.lit (.int .i64 x.lk),avU x.g,.lit (.bool x.only),.sl .none 1 (x.src.map avU)])] = mkE [(5,.lp 5 0),(6,.lit (.bool (!groupN x.g || (x.src.take (k + 1)).any fun a => !hostN a))),(7,.lit (.int .i64 ((k + 1 : Nat) : Int)))] [(2,netV w),(5,[.lit (.int .i64 x.lk),avU x.g,.lit (.bool x.only),.sl .none 1 (x.src.map avU)])]:= fun b' e => by rw [hs,e]
   cases b with
   | true =>
    simp only [go_sem,f1,decide_true,List.length_map,hw]
    exact ⟨m - 1,by omega,k + 1,by omega,next true rfl⟩
   | false =>
    simp only [go_sem,f1,decide_true,List.length_map,Int.toNat_natCast,Int.natCast_nonneg,List.getElem?_map,ha,Option.map_some,hr,avU,hw]
    refine callX_of hA ?_
    cases hg : groupN a
    ·simp only [go_sem,List.length_map,Int.toNat_natCast,Int.natCast_nonneg,List.getElem?_map,ha,Option.map_some,hr,avU,nb0,hw]
     exact ⟨m - 1,by omega,k + 1,by omega,next (a == 0) (by simp only [hostN,hg]; cases a == 0 <;> rfl)⟩
    ·simp only [go_sem,hw]
     exact ⟨m - 1,by omega,k + 1,by omega,next true (by simp only [hostN,hg]; cases a == 0 <;> rfl)⟩
  ·obtain rfl : k = x.src.length:= by omega
   have f1 : ((x.src.length : Int) < (x.src.length : Int)) = False:= eq_false (by omega)
   rw [List.take_length]
   cases hb : (!groupN x.g || x.src.any fun a => !hostN a)
   case true => simp only [go_sem,f1,decide_false,List.length_map,mbOf,h2,hb,codeN,codeG,Bool.true_eq_false]
   by_cases h5 : 4 < x.src.length
   ·have f5 : (4 < (x.src.length : Int)) = True:= eq_true (by omega)
    simp only [go_sem,f1,f5,decide_false,decide_true,List.length_map,mbOf,h2,hb,h5,codeN,codeG,Bool.true_eq_false,Bool.false_eq_true]
   have f5 : (4 < (x.src.length : Int)) = False:= eq_false (by omega)
   simp only [go_sem,f1,f5,decide_false,List.length_map]
   refine aw_loop (fun m E => ∃ k : Nat,k + m = x.src.length ∧ (∀ (j y : Nat),j < k → x.src[j]? = some y → ((x.src.take j).any fun z => z == y) = false) ∧ E = mkE [(5,.lp 5 0),(8,.lit (.int .i64 (k : Nat)))] [(2,netV w),(5,[.lit (.int .i64 x.lk),avU x.g,.lit (.bool x.only),.sl .none 1 (x.src.map avU)])]) x.src.length ?_ ?_
   ·exact ⟨0,by omega,fun j y hj => absurd hj (Nat.not_lt_zero j),by simp only [go_sem,Int.natCast_zero]⟩
   ·rintro m _ ⟨k,hk,hall,rfl⟩
    by_cases hkl : k < x.src.length
    ·have f2 : ((k : Int) < (x.src.length : Int)) = True:= eq_true (by omega)
     obtain ⟨a,ha⟩ : ∃ a,x.src[k]? = some a:= ⟨x.src[k],List.getElem?_eq_getElem hkl⟩
     have hw:= wrap_succ k (by omega)
     have hr:= fun x => avRow_some 1 .none (AV.lit x) rfl
     have sl1:= headSl avU 1 x.src k (by omega)
     have hH:= C_HasU .none 1 (x.src.take k) a rfl (.inl rfl) (by rw [List.length_take]; omega)
     simp only [avU] at hH
     simp only [go_sem,f2,decide_true,List.length_map,Int.toNat_natCast,Int.natCast_nonneg,List.getElem?_map,ha,Option.map_some,hr,avU,sl1]
     refine callX_of hH ?_
     cases hp : (x.src.take k).any fun y => y == a
     ·simp only [go_sem,hw]
      refine ⟨m - 1,by omega,k + 1,by omega,fun j y hj hy => ?_,rfl⟩
      by_cases hjk : j = k
      ·subst hjk; rw [ha] at hy; injection hy with hy; rw [← hy]; exact hp
      ·exact hall j y (by omega) hy
     ·have hn:= not_nodup_of ha hp
      simp only [go_sem,mbOf,h2,hb,h5,hn,codeN,codeG,decide_false,Bool.true_eq_false,Bool.false_eq_true]
    ·have f2 : ((k : Int) < (x.src.length : Int)) = False:= eq_false (by omega)
     have hn : x.src.Nodup:= nodup_of fun j y hy => hall j y (by have:= (List.getElem?_eq_some_iff.1 hy).1; omega) hy
     simp only [go_sem,f2,decide_false,List.length_map,mbOf,h2,hb,h5,hn,codeN,codeG,decide_true,Bool.true_eq_false,Bool.false_eq_true]
theorem R_valid (w : NW) (h : w.OK) (k i : Nat) (hk : k < 7) (hi : i < lenN w k) : AC Tryz.prog f_q46 [.agg (netV w),.lit (.int .i64 (k : Nat)),.lit (.int .i64 (i : Nat))] (.lit (.int .i64 (codeN (vAt w k i)))):= by
 refine ac_q46 ?_ (Nat.le_add_left 3 _)
 have cc : ∀ n : Nat,((k : Int) == (n : Int)) = (k == n):= fun n => nat_beqb k n
 match k,hk,hi with
 | 0,_,hi =>
  have e:= List.getElem?_eq_getElem (show i < w.rts.length from hi)
  have hC:= R_router w h i _ e
  simp only [go_sem,c_q46,show (((0 : Nat) : Int) == 0) = true from rfl,low_net,one_net,len_net,take_net,Nat.le_refl]
  refine callX_of hC ?_
  simp only [go_sem,vAt,e,Option.bind_some]
 | 1,_,hi =>
  have e:= List.getElem?_eq_getElem (show i < w.lks.length from hi)
  have hC:= R_link w h i _ e
  simp only [go_sem,c_q46,show (((1 : Nat) : Int) == 0) = false from rfl,show (((1 : Nat) : Int) == 1) = true from rfl,low_net,one_net,len_net,take_net,Nat.le_refl]
  refine callX_of hC ?_
  simp only [go_sem,vAt,e,Option.bind_some]
 | 2,_,hi =>
  have e:= List.getElem?_eq_getElem (show i < w.pts.length from hi)
  have hC:= R_port w h i _ e
  simp only [go_sem,c_q46,show (((2 : Nat) : Int) == 0) = false from rfl,show (((2 : Nat) : Int) == 1) = false from rfl,show (((2 : Nat) : Int) == 2) = true from rfl,low_net,one_net,len_net,take_net,Nat.le_refl]
  refine callX_of hC ?_
  simp only [go_sem,vAt,e,Option.bind_some]
 | 3,_,hi =>
  have e:= List.getElem?_eq_getElem (show i < w.ros.length from hi)
  have hC:= R_route w h i _ e
  simp only [go_sem,c_q46,show (((3 : Nat) : Int) == 0) = false from rfl,show (((3 : Nat) : Int) == 1) = false from rfl,show (((3 : Nat) : Int) == 2) = false from rfl,show (((3 : Nat) : Int) == 3) = true from rfl,low_net,one_net,len_net,take_net,Nat.le_refl]
  refine callX_of hC ?_
  simp only [go_sem,vAt,e,Option.bind_some]
 | 4,_,hi =>
  have e:= List.getElem?_eq_getElem (show i < w.rgs.length from hi)
  have hC:= R_groups w h i _ e
  simp only [go_sem,c_q46,show (((4 : Nat) : Int) == 0) = false from rfl,show (((4 : Nat) : Int) == 1) = false from rfl,show (((4 : Nat) : Int) == 2) = false from rfl,show (((4 : Nat) : Int) == 3) = false from rfl,show (((4 : Nat) : Int) == 4) = true from rfl,low_net,one_net,len_net,take_net,Nat.le_refl]
  refine callX_of hC ?_
  simp only [go_sem,vAt,e,Option.bind_some]
 | 5,_,hi =>
  have e:= List.getElem?_eq_getElem (show i < w.scs.length from hi)
  have hC:= R_source w h i _ e
  simp only [go_sem,c_q46,show (((5 : Nat) : Int) == 0) = false from rfl,show (((5 : Nat) : Int) == 1) = false from rfl,show (((5 : Nat) : Int) == 2) = false from rfl,show (((5 : Nat) : Int) == 3) = false from rfl,show (((5 : Nat) : Int) == 4) = false from rfl,show (((5 : Nat) : Int) == 5) = true from rfl,low_net,one_net,len_net,take_net,Nat.le_refl]
  refine callX_of hC ?_
  simp only [go_sem,vAt,e,Option.bind_some]
 | 6,_,hi =>
  have e:= List.getElem?_eq_getElem (show i < w.mbs.length from hi)
  have hC:= R_member w h i _ e
  simp only [go_sem,c_q46,show (((6 : Nat) : Int) == 0) = false from rfl,show (((6 : Nat) : Int) == 1) = false from rfl,show (((6 : Nat) : Int) == 2) = false from rfl,show (((6 : Nat) : Int) == 3) = false from rfl,show (((6 : Nat) : Int) == 4) = false from rfl,show (((6 : Nat) : Int) == 5) = false from rfl,low_net,one_net,len_net,take_net,Nat.le_refl]
  refine callX_of hC ?_
  simp only [go_sem,vAt,e,Option.bind_some]
def lensV (w : NW) : List AV:= [.lit (.int .i64 (w.rts.length : Nat)),.lit (.int .i64 (w.lks.length : Nat)),.lit (.int .i64 (w.pts.length : Nat)),.lit (.int .i64 (w.ros.length : Nat)),.lit (.int .i64 (w.rgs.length : Nat)),.lit (.int .i64 (w.scs.length : Nat)),.lit (.int .i64 (w.mbs.length : Nat))]
def mostsV : List AV:= [.lit (.int .i64 16),.lit (.int .i64 24),.lit (.int .i64 64),.lit (.int .i64 96),.lit (.int .i64 8),.lit (.int .i64 8),.lit (.int .i64 24)]
theorem lensV_get (w : NW) (k : Nat) (h : k < 7) : (lensV w)[k]? = some (.lit (.int .i64 (lenN w k : Nat))):= by
 match k,h with
 | 0,_ => rfl
 | 1,_ => rfl
 | 2,_ => rfl
 | 3,_ => rfl
 | 4,_ => rfl
 | 5,_ => rfl
 | 6,_ => rfl
 | k + 7,h => omega
theorem mostsV_get (k : Nat) (h : k < 7) : mostsV[k]? = some (.lit (.int .i64 (mostN k : Nat))):= by
 match k,h with
 | 0,_ => rfl
 | 1,_ => rfl
 | 2,_ => rfl
 | 3,_ => rfl
 | 4,_ => rfl
 | 5,_ => rfl
 | 6,_ => rfl
 | k + 7,h => omega
theorem R_sizes (w : NW) : AC Tryz.prog f_q45 [.agg (netV w)] (.tup [.agg (lensV w),.agg mostsV]):= by
 refine ac_q45 ?_ (Nat.le_add_left 1 _)
 simp only [go_sem,c_q45,netV,List.length_map]
 rfl
theorem codeG_ne (g : Nat) : (codeG g != 0) = true:= by
 unfold codeG
 split <;> rfl
theorem R_Valid (w : NW) (h : w.OK) : AC Tryz.prog f_q9 [.agg (netV w)] (.lit (.int .i64 (codeN (vNet w)))):= by
 refine ac_q9 ?_ (Nat.le_add_left 1 _)
 simp only [go_sem,c_q9,low_net,one_net,len_net,take_net,Nat.le_refl]
 refine callX_of (R_sizes w) ?_
 have g1 : (lensV w).all AV.one = true:= rfl
 have g2 : mostsV.all AV.one = true:= rfl
 have g3 : (lensV w).length = 7:= rfl
 have g4 : mostsV.length = 7:= rfl
 have g5 : ∀ d,retagL d (lensV w) = lensV w:= fun _ => rfl
 have g6 : ∀ d,retagL d mostsV = mostsV:= fun _ => rfl
 simp only [go_sem,g1,g2,g3,g4,g5,g6]
 refine aw_loop (fun m E => ∃ k : Nat,k + m = 7 ∧ scanK w m k = vNet w ∧ E = mkE [(1,.lp 1 0),(3,.lp 3 0),(4,.lp 4 0),(5,.lit (.int .i64 (k : Nat)))] [(1,netV w),(3,lensV w),(4,mostsV)]) 7 ?_ ?_
 ·exact ⟨0,rfl,rfl,by simp only [go_sem]; rfl⟩
 ·rintro m _ ⟨k,hk,hs,rfl⟩
  by_cases hk7 : k < 7
  ·have f1 : ((k : Int) < 7) = True:= eq_true (by omega)
   have hw:= wrap_succ k (by omega)
   obtain ⟨m,rfl⟩ : ∃ m',m = m' + 1:= ⟨m - 1,by omega⟩
   have hlen:= lenN_lt w h k
   simp only [go_sem,f1,decide_true]
   refine aw_loop (fun q E => ∃ i : Nat,i + q = lenN w k ∧ vList w k i = vList w k 0 ∧ E = mkE [(1,.lp 1 0),(3,.lp 3 0),(4,.lp 4 0),(5,.lit (.int .i64 (k : Nat))),(6,.lit (.int .i64 (i : Nat)))] [(1,netV w),(3,lensV w),(4,mostsV)]) (lenN w k) ?_ ?_
   ·exact ⟨0,by omega,rfl,by simp only [go_sem,Int.natCast_zero]⟩
   ·rintro q _ ⟨i,hi,hvi,rfl⟩
    have l1 : aval.ld false 1 ((lensV w).drop k) = _:= (ld_drop _ _).trans (lensV_get w k hk7)
    have l2 : aval.ld false 1 (mostsV.drop k) = _:= (ld_drop _ _).trans (mostsV_get k hk7)
    have f7 : ((k : Int) < ((7 : Nat) : Int)) = True:= eq_true (by omega)
    by_cases hil : i < lenN w k
    ·have f2 : ((i : Int) < (lenN w k : Int)) = True:= eq_true (by omega)
     have hw2:= wrap_succ i (by omega)
     have hC:= R_valid w h k i hk7 hil
     by_cases hm : mostN k ≤ i
     ·have f3 : ((mostN k : Int) ≤ (i : Int)) = True:= eq_true (by omega)
      have e : vNet w = some 0:= by rw [← hs]; exact scanK_hit w k m _ (by rw [← hvi]; exact vList_many w k i hil hm)
      simp only [go_sem,f1,f7,f2,f3,decide_true,l1,l2,Int.toNat_natCast,Int.natCast_nonneg,Nat.mul_one,Nat.zero_add,e,codeN,codeG]
     ·have f3 : ((mostN k : Int) ≤ (i : Int)) = False:= eq_false (by omega)
      simp only [go_sem,f1,f7,f2,f3,decide_true,decide_false,l1,l2,Int.toNat_natCast,Int.natCast_nonneg,Nat.mul_one,Nat.zero_add,low_net,one_net,len_net,take_net,Nat.le_refl]
      refine callX_of hC ?_
      cases hva : vAt w k i with
      | some g =>
       have e : vNet w = some g:= by rw [← hs]; exact scanK_hit w k m _ (by rw [← hvi]; exact vList_some w k i g hil (by omega) hva)
       have hne:= codeG_ne g
       simp only [go_sem,codeN,e,hne]
      | none =>
       simp only [go_sem,codeN,b000,hw2]
       exact ⟨q - 1,by omega,i + 1,by omega,by rw [← hvi]; exact (vList_none w k i hil (by omega) hva).symm,rfl⟩
    ·have f2 : ((i : Int) < (lenN w k : Int)) = False:= eq_false (by omega)
     simp only [go_sem,f1,f7,f2,decide_true,decide_false,l1,Int.toNat_natCast,Int.natCast_nonneg,Nat.mul_one,Nat.zero_add,hw]
     exact ⟨m,by omega,k + 1,by omega,by rw [← hs]; exact (scanK_go w k m (by rw [← hvi]; exact vList_end w k i (by omega))).symm,rfl⟩
  ·have f1 : ((k : Int) < 7) = False:= eq_false (by omega)
   obtain rfl : m = 0:= by omega
   rw [← hs]
   simp only [go_sem,f1,decide_false,scanK,codeN]
end Go.Proofs.YtnndbbmidoidpaaGreatDoor.VL
end

section
set_option maxHeartbeats 4000000
namespace Go.Proofs.YtnndbbmidoidpaaGreatDoor.VL
open Go.RowKit Go.Proofs
def errZ : List Nat:= [0,2,3,4,5,6,7]
theorem ite_err {p : Prop} [Decidable p] {a g : Nat} {o : Option Nat} (ha : a ∈ errZ) (h : o = some g → g ∈ errZ) : (if p then some a else o) = some g → g ∈ errZ:= by
 intro e
 by_cases hp : p
 ·rw [if_pos hp] at e
  injection e with e
  rw [← e]; exact ha
 ·rw [if_neg hp] at e
  exact h e
theorem none_err {g : Nat} : (none : Option Nat) = some g → g ∈ errZ:= fun e => nomatch e
theorem vAt_err {w : NW} {k i g : Nat} (h : vAt w k i = some g) : g ∈ errZ:= by
 unfold vAt at h
 split at h <;> (
  rw [Option.bind_eq_some_iff] at h
  obtain ⟨x,_,h⟩:= h
  revert h)
 ·unfold rtOf
  exact ite_err (by decide) (ite_err (by decide) (ite_err (by decide) none_err))
 ·unfold lkOf
  exact ite_err (by decide) (ite_err (by decide) (ite_err (by decide) (ite_err (by decide) none_err)))
 ·unfold ptOf
  exact ite_err (by decide) (ite_err (by decide) (ite_err (by decide) none_err))
 ·unfold roOf
  exact ite_err (by decide) (ite_err (by decide) (ite_err (by decide) none_err))
 ·unfold rgOf
  exact ite_err (by decide) (ite_err (by decide) (ite_err (by decide) none_err))
 ·unfold scOf
  exact ite_err (by decide) (ite_err (by decide) (ite_err (by decide) (ite_err (by decide) none_err)))
 ·unfold mbOf
  exact ite_err (by decide) (ite_err (by decide) (ite_err (by decide) (ite_err (by decide) none_err)))
theorem scanI_err {most : Nat} {f : Nat → Option Nat} (hf : ∀ i g,f i = some g → g ∈ errZ) : ∀ {n i g : Nat},scanI most f n i = some g → g ∈ errZ
 | 0,i,g,h => nomatch h
 | n + 1,i,g,h => by
  revert h
  rw [scanI]
  refine ite_err (by decide) fun h => ?_
  split at h
  ·rename_i g' hg
   injection h with h
   rw [← h]; exact hf _ _ hg
  ·exact scanI_err hf h
theorem scanK_err {w : NW} : ∀ {n k g : Nat},scanK w n k = some g → g ∈ errZ
 | 0,k,g,h => nomatch h
 | n + 1,k,g,h => by
  rw [scanK] at h
  split at h
  ·rename_i g' hg
   injection h with h
   rw [← h]; exact scanI_err (fun i g => vAt_err) hg
  ·exact scanK_err h
theorem vNet_err {w : NW} {g : Nat} (h : vNet w = some g) : g ∈ errZ:= scanK_err h
theorem err_sent : ∀ g ∈ errZ,g ∈ sentL:= by decide
theorem err_code : ∀ g ∈ errZ,codeI g = codeG g:= by decide
theorem code_eq (w : NW) : codeO (vNet w) = codeN (vNet w):= by
 cases h : vNet w with
 | none => rfl
 | some g => exact err_code g (vNet_err h)
theorem C_IsV (w : NW) : AC Tryz.prog f_q10 [amiss (vNet w),.lit (.int .i64 (codeN (vNet w)))] (.lit (.bool true)):= by
 have h:= C_Is (vNet w) (fun i hi => err_sent i (vNet_err hi)) (codeN (vNet w))
 rw [code_eq,beq_self_eq_true] at h
 have e : errO (vNet w) = amiss (vNet w):= by cases vNet w <;> rfl
 rwa [e] at h
theorem C_NewE (w : NW) (h : w.OK) {g : Nat} (hv : vNet w = some g) : AC Tryz.prog f_q8 [.agg (netV w)] (.tup [.lit (.pointer none),.gl g]):= by
 have hcV:= C_cValid w h
 rw [hv] at hcV
 refine ac_q8 ?_ (Nat.le_add_left 1 _)
 simp only [go_sem,c_q8,low_net,one_net,len_net,take_net,Nat.le_refl]
 refine callX_of hcV ?_
 simp only [go_sem,amiss]
theorem C_Config (w : NW) (hf : w.Fit) : AC Tryz.prog f_q25 [.rp (topoV w)] (.agg (netV w)):= by
 refine ac_q25 ?_ (Nat.le_add_left 1 _)
 generalize hT : topoV w = T at *
 have hT1 : (7 ≤ T.length) = True:= eq_true (by rw [← hT]; exact Nat.le_of_ble_eq_true rfl)
 have hT2 : T.take 7 = netV w:= by rw [← hT]; rfl
 have g5 : ∀ d,retagL d (netV w) = netV w:= fun _ => rfl
 simp only [go_sem,c_q25,hT1,hT2,low_net,one_net,len_net,take_net,Nat.le_refl]
 refine callX_of (C_cClone w hf) ?_
 simp only [go_sem,g5,low_net,one_net,len_net,take_net,Nat.le_refl]
 simp only [go_sem,netV]
def light8 (w : NW) : Bool:= decide (w.rts.length ≤ 20) && (decide (w.lks.length ≤ 30) && (decide (w.pts.length ≤ 70) && (decide (w.ros.length ≤ 100) && (decide (w.rgs.length ≤ 10) && (decide (w.scs.length ≤ 10) && (decide (w.mbs.length ≤ 26)))))))
theorem C_light8 (w : NW) : AC Tryz.prog f_q7 [.agg (netV w)] (.lit (.bool (light8 w))):= by
 refine ac_q7 ?_ (Nat.le_add_left 1 _)
 by_cases a1 : w.rts.length ≤ 20
 case neg =>
  have f1 : ((w.rts.length : Int) ≤ 20) = False:= eq_false (by omega)
  simp only [go_sem,c_q7,netV,List.length_map,f1,decide_true,decide_false,light8,a1,Bool.false_and,Bool.true_and]
 have f1 : ((w.rts.length : Int) ≤ 20) = True:= eq_true (by omega)
 by_cases a2 : w.lks.length ≤ 30
 case neg =>
  have f2 : ((w.lks.length : Int) ≤ 30) = False:= eq_false (by omega)
  simp only [go_sem,c_q7,netV,List.length_map,f1,f2,decide_true,decide_false,light8,a1,a2,Bool.false_and,Bool.true_and]
 have f2 : ((w.lks.length : Int) ≤ 30) = True:= eq_true (by omega)
 by_cases a3 : w.pts.length ≤ 70
 case neg =>
  have f3 : ((w.pts.length : Int) ≤ 70) = False:= eq_false (by omega)
  simp only [go_sem,c_q7,netV,List.length_map,f1,f2,f3,decide_true,decide_false,light8,a1,a2,a3,Bool.false_and,Bool.true_and]
 have f3 : ((w.pts.length : Int) ≤ 70) = True:= eq_true (by omega)
 by_cases a4 : w.ros.length ≤ 100
 case neg =>
  have f4 : ((w.ros.length : Int) ≤ 100) = False:= eq_false (by omega)
  simp only [go_sem,c_q7,netV,List.length_map,f1,f2,f3,f4,decide_true,decide_false,light8,a1,a2,a3,a4,Bool.false_and,Bool.true_and]
 have f4 : ((w.ros.length : Int) ≤ 100) = True:= eq_true (by omega)
 by_cases a5 : w.rgs.length ≤ 10
 case neg =>
  have f5 : ((w.rgs.length : Int) ≤ 10) = False:= eq_false (by omega)
  simp only [go_sem,c_q7,netV,List.length_map,f1,f2,f3,f4,f5,decide_true,decide_false,light8,a1,a2,a3,a4,a5,Bool.false_and,Bool.true_and]
 have f5 : ((w.rgs.length : Int) ≤ 10) = True:= eq_true (by omega)
 by_cases a6 : w.scs.length ≤ 10
 case neg =>
  have f6 : ((w.scs.length : Int) ≤ 10) = False:= eq_false (by omega)
  simp only [go_sem,c_q7,netV,List.length_map,f1,f2,f3,f4,f5,f6,decide_true,decide_false,light8,a1,a2,a3,a4,a5,a6,Bool.false_and,Bool.true_and]
 have f6 : ((w.scs.length : Int) ≤ 10) = True:= eq_true (by omega)
 by_cases a7 : w.mbs.length ≤ 26
 case neg =>
  have f7 : ((w.mbs.length : Int) ≤ 26) = False:= eq_false (by omega)
  simp only [go_sem,c_q7,netV,List.length_map,f1,f2,f3,f4,f5,f6,f7,decide_true,decide_false,light8,a1,a2,a3,a4,a5,a6,a7,Bool.false_and,Bool.true_and]
 have f7 : ((w.mbs.length : Int) ≤ 26) = True:= eq_true (by omega)
 simp only [go_sem,c_q7,netV,List.length_map,f1,f2,f3,f4,f5,f6,f7,decide_true,decide_false,light8,a1,a2,a3,a4,a5,a6,a7,Bool.false_and,Bool.true_and]
end Go.Proofs.YtnndbbmidoidpaaGreatDoor.VL
end

section
set_option maxHeartbeats 4000000
namespace Go.Proofs.YtnndbbmidoidpaaGreatDoor.VL
open Go.RowKit Go.Proofs Go.Sort
theorem avApp_ownG (esz bytes e' d : Nat) (bs : List Nat) (τ : List Nat) (s : List (Nat × AV)) (c : List (Nat × List AV)) (rows rows' : List AV) (tk : Tok) (h : rows.length + rows'.length ≤ 4294967296) (hb : bytes ≤ 32768) (ho : okBs bs (.sl (.own τ) esz rows) = true) (he : e' = esz ∨ rows' = []) (hg : goneB tk = false:= by rfl) :
  avApp esz bytes bs d s c (.sl (.own τ) esz rows) (.sl tk e' rows') = some (mkE (putA (mapV (strip τ) s) d (.sl (.own [d]) esz (rows ++ rows'))) (mapV (stripL τ) c)):= by
 simp [avApp,ho,stepApp,h,hb,hg,he,mkE_strip,mkE_put]
theorem rising_ext : ∀ {l l' : List Int},Rising l → Rising l' → (∀ a,a ∈ l ↔ a ∈ l') → l = l'
 | [],[],_,_,_ => rfl
 | [],b :: t,_,_,h => absurd ((h b).2 List.mem_cons_self) (by simp)
 | a :: t,[],_,_,h => absurd ((h a).1 List.mem_cons_self) (by simp)
 | a :: t,b :: t',h1,h2,h => by
  obtain ⟨p1,q1⟩:= List.pairwise_cons.1 h1
  obtain ⟨p2,q2⟩:= List.pairwise_cons.1 h2
  have e : a = b:= by
   rcases List.mem_cons.1 ((h a).1 List.mem_cons_self) with e | e
   ·exact e
   ·rcases List.mem_cons.1 ((h b).2 List.mem_cons_self) with e' | e'
    ·exact e'.symm
    ·have:= p2 a e
     have:= p1 b e'
     omega
  subst e
  congr 1
  refine rising_ext q1 q2 fun x => ⟨fun hx => ?_,fun hx => ?_⟩
  ·rcases List.mem_cons.1 ((h x).1 (List.mem_cons_of_mem _ hx)) with e | e
   ·have:= p1 x hx; omega
   ·exact e
  ·rcases List.mem_cons.1 ((h x).2 (List.mem_cons_of_mem _ hx)) with e | e
   ·have:= p2 x hx; omega
   ·exact e
def putIn : List Int → Int → List Int
 | [],a => [a]
 | x :: t,a => if x < a then x :: putIn t a else if x = a then x :: t else a :: x :: t
theorem mem_put {a b : Int} : ∀ {l : List Int},b ∈ putIn l a ↔ b = a ∨ b ∈ l
 | [] => by simp [putIn]
 | x :: t => by
  have ih : b ∈ putIn t a ↔ b = a ∨ b ∈ t:= mem_put
  simp only [putIn]
  split
  ·rw [List.mem_cons,ih,List.mem_cons]
   constructor
   ·rintro (h | h | h)
    ·exact .inr (.inl h)
    ·exact .inl h
    ·exact .inr (.inr h)
   ·rintro (h | h | h)
    ·exact .inr (.inl h)
    ·exact .inl h
    ·exact .inr (.inr h)
  ·split
   ·rename_i h
    rw [h,List.mem_cons]
    constructor
    ·exact fun h => .inr h
    ·rintro (h | h)
     ·exact .inl h
     ·exact h
   ·rw [List.mem_cons]
theorem put_rising {a : Int} : ∀ {l : List Int},Rising l → Rising (putIn l a)
 | [],_ => by simp [putIn,Rising]
 | x :: t,h => by
  obtain ⟨h1,h2⟩:= List.pairwise_cons.1 h
  simp only [putIn]
  split
  ·rename_i hx
   refine List.pairwise_cons.2 ⟨fun y hy => ?_,put_rising h2⟩
   rcases mem_put.1 hy with rfl | hy
   ·exact hx
   ·exact h1 y hy
  ·split
   ·exact h
   ·rename_i hx hx2
    refine List.pairwise_cons.2 ⟨fun y hy => ?_,h⟩
    rcases List.mem_cons.1 hy with rfl | hy
    ·omega
    ·have:= h1 y hy
     omega
theorem put_len (a : Int) : ∀ l : List Int,(putIn l a).length ≤ l.length + 1
 | [] => by simp [putIn]
 | x :: t => by
  have:= put_len a t
  simp only [putIn]
  split
  ·simp; omega
  ·split <;> simp
theorem put_at {a : Int} : ∀ {l : List Int} {k : Nat},k ≤ l.length → (∀ (j : Nat) (y : Int),j < k → l[j]? = some y → y < a) → (∀ y,l[k]? = some y → ¬ y < a) → putIn l a = if l[k]? = some a then l else l.take k ++ [a] ++ l.drop k
 | [],k,hk,h1,h2 => by
  have : k = 0:= by simpa using hk
  subst this
  simp [putIn]
 | x :: t,0,hk,h1,h2 => by
  have h:= h2 x rfl
  simp only [putIn,if_neg h,List.getElem?_cons_zero,Option.some.injEq]
  split <;> simp
 | x :: t,k + 1,hk,h1,h2 => by
  have hx:= h1 0 x (by omega) rfl
  have ih:= put_at (l:= t) (k:= k) (by simpa using hk) (fun j y hj hy => h1 (j + 1) y (by omega) hy) (fun y hy => h2 y hy)
  simp only [putIn,if_pos hx,List.getElem?_cons_succ,ih]
  split <;> simp
theorem C_Addrs (l : List Int) (hl : l.length ≤ 4294967295) : AC Tryz.prog f_q111 [.sl .none 1 (l.map aI)] (.sl (.own (if l = [] then [7] else [20])) 1 (l.map aI)) := by
  refine ac_q111 ?_ (Nat.le_add_left 1 _)
  have m1 : ∀ (s : List (Nat × AV)) (c : List (Nat × List AV)), mkoM 1 4 7 (.lit (.int .i64 l.length)) s c = some (mkE (putA s 7 (.sl (.own [7]) 1 [])) c) := fun s c => mkoM_l 1 4 .i64 _ (by omega) (by omega) (by decide)
  simp only [go_sem, c_q111, m1]
  refine aw_loop (fun m E => ∃ (k : Nat) (τ : List Nat), k + m = l.length ∧ τ = (if k = 0 then [7] else [20]) ∧ E = mkE [(0, .sl .none 1 (l.map aI)), (3, .sl (.own τ) 1 ((l.take k).map aI)), (4, .lit (.int .i64 (k : Nat)))] []) l.length ?_ ?_
  · exact ⟨0, [7], by omega, rfl, by simp only [go_sem, Int.ofNat_zero]⟩
  · rintro m _ ⟨k, τ, hk, hτ, rfl⟩
    simp only [go_sem]
    refine condX_of (fun h => ?_) (fun h => ?_)
    · have hkl : k < l.length := by simpa using h
      obtain ⟨x, hx⟩ : ∃ x, l[k]? = some x := ⟨l[k], List.getElem?_eq_getElem hkl⟩
      have hw := wrap_succ k (by omega)
      have htk : (l.take (k + 1)).map aI = (l.take k).map aI ++ [aI x] := by
        rw [List.take_add_one, hx]
        simp
      have hr : ∀ z : Int, avRow 1 1 Tok.none (some (aI z)) = some (.rp [aI z]) := fun _ => rfl
      have a1 : ∀ (s : List (Nat × AV)) (c : List (Nat × List AV)), avApp 1 4 [] 20 s c (.sl (.own τ) 1 ((l.take k).map aI)) (.sl (.own [19]) 1 [aI x]) = some (mkE (putA (mapV (strip τ) s) 20 (.sl (.own [20]) 1 ((l.take k).map aI ++ [aI x]))) (mapV (stripL τ) c)) := fun s c =>
        avApp_ownG 1 4 1 20 [] τ s c _ _ (.own [19]) (by simp; omega) (by decide) rfl (.inl rfl) rfl
      simp only [go_sem, h, hx, Int.toNat_natCast, Int.natCast_nonneg, List.getElem?_map, hr, a1, hw]
      exact ⟨m - 1, by omega, k + 1, [20], by omega, rfl, by rw [htk]⟩
    · have hkl : k = l.length := by have : ¬ k < l.length := by simpa using h
                                    omega
      subst hkl
      have hτ' : τ = (if l = [] then [7] else [20]) := by
        rw [hτ]
        by_cases h0 : l = []
        · subst h0; rfl
        · rw [if_neg h0, if_neg (fun h1 => h0 (List.length_eq_zero_iff.1 h1))]
      simp only [go_sem, h, List.take_length, hτ']
structure PutAt (l : List Int) (a : Int) (k : Nat) : Prop where
 le : k ≤ l.length
 lo : ∀ (j : Nat) (y : Int),j < k → l[j]? = some y → y < a
 hi : ∀ y,l[k]? = some y → ¬ y < a
theorem putAt_ex (a : Int) : ∀ l : List Int,∃ k,PutAt l a k
  | [] => ⟨0,by simp,fun j y h => absurd h (Nat.not_lt_zero j),fun y h => by simp at h⟩
  | x :: t => by
    by_cases h : x < a
    · obtain ⟨k,h1,h2,h3⟩:= putAt_ex a t
      refine ⟨k + 1,by simpa using h1,fun j y hj hy => ?_,fun y hy => h3 y (by simpa using hy)⟩
      cases j with
      | zero => have : x = y:= by simpa using hy
                omega
      | succ j => exact h2 j y (by omega) (by simpa using hy)
    · refine ⟨0,by simp,fun j y hj => absurd hj (Nat.not_lt_zero j),fun y hy => ?_⟩
      have e : x = y:= by simpa using hy
      rw [← e]
      exact h
theorem PutAt.uniq {l : List Int} {a : Int} {k K : Nat} (h : PutAt l a k) (H : PutAt l a K) : k = K:= by
 have aux : ∀ {p q : Nat},PutAt l a p → PutAt l a q → ¬ p < q:= fun {p q} hp hq hlt => by
  have hl : p < l.length:= Nat.lt_of_lt_of_le hlt hq.le
  exact hp.hi _ (List.getElem?_eq_getElem hl) (hq.lo p _ hlt (List.getElem?_eq_getElem hl))
 have:= aux h H
 have:= aux H h
 omega
theorem W_Put (l : List Int) (a : Int) (K : Nat) (H : PutAt l a K) (hl : l.length ≤ 4294967294) :
  aw Tryz.prog c_q52 (env0 [.sl .none 1 (l.map aI),aI a]) (endQ v_q52 (.sl (if l[K]? = some a then .none else .own [45]) 1 ((putIn l a).map aI))):= by
 simp only [go_sem,c_q52]
 have hr : ∀ z : Int,avRow 1 1 Tok.none (some (aI z)) = some (.rp [aI z]):= fun _ => rfl
 refine aw_loopF (fun m E => ∃ k,k + m = l.length ∧ (∀ (j : Nat) (y : Int),j < k → l[j]? = some y → y < a) ∧ E = mkE [(0,.sl .none 1 (l.map aI)),(1,aI a),(5,.lit (.int .i64 (k : Nat)))] []) l.length
  (fun E' => E' = mkE [(0,.sl .none 1 (l.map aI)),(1,aI a),(5,.lit (.int .i64 (K : Nat)))] []) ?_ ?_ ?_
 ·exact ⟨0,by omega,fun j y hj => absurd hj (Nat.not_lt_zero j),by simp only [go_sem,Int.ofNat_zero]⟩
 ·rintro m _ ⟨k,hk,hlo,rfl⟩
  by_cases hkl : k < l.length
  ·have h : decide ((k : Int) < (l.length : Int)) = true:= by simp; omega
   obtain ⟨x,hx⟩ : ∃ x,l[k]? = some x:= ⟨l[k],List.getElem?_eq_getElem hkl⟩
   have hw:= wrap_succ k (by omega)
   by_cases hxa : x < a
   ·have f1 : (x < a) = True:= eq_true hxa
    simp only [go_sem,h,of_decide_eq_true h,hx,Int.toNat_natCast,Int.natCast_nonneg,List.getElem?_map,hr,f1,decide_true,hw]
    refine ⟨m - 1,by omega,k + 1,by omega,fun j y hj hy => ?_,rfl⟩
    by_cases hjk : j = k
    ·subst hjk
     rw [hx] at hy
     injection hy with hy
     omega
    ·exact hlo j y (by omega) hy
   ·have f1 : (x < a) = False:= eq_false hxa
    have e : k = K:= PutAt.uniq ⟨by omega,hlo,fun y hy => by rw [hx] at hy; injection hy with hy; omega⟩ H
    simp only [go_sem,h,of_decide_eq_true h,hx,Int.toNat_natCast,Int.natCast_nonneg,List.getElem?_map,hr,f1,decide_false]
    rw [e]
  ·have h : decide ((k : Int) < (l.length : Int)) = false:= by simp; omega
   have e : k = K:= PutAt.uniq ⟨by omega,hlo,fun y hy => by rw [List.getElem?_eq_none (by omega)] at hy; cases hy⟩ H
   simp only [go_sem,h]
   rw [e]
 ·rintro _ rfl
  have hput:= put_at H.le H.lo H.hi
  have hle:= H.le
  have q1 : avSl 1 .none 1 (l.map aI) (some ((0 : Nat) : Int)) (some (K : Int)) = some (.sl .none 1 ((l.take K).map aI)):= by
   rw [avSl_some 1 .none (l.map aI) _ _ rfl (by simp; omega),Int.toNat_natCast,Int.toNat_natCast,List.drop_zero,List.map_take]
   rfl
  have q2 : avSl 1 .none 1 (l.map aI) (some (K : Int)) (some (l.length : Int)) = some (.sl .none 1 ((l.drop K).map aI)):= by
   rw [avSl_some 1 .none (l.map aI) _ _ rfl (by simp; omega),Int.toNat_natCast,Int.toNat_natCast,List.take_of_length_le (by simp),List.map_drop]
   rfl
  have htl : (l.take K).length ≤ l.length:= by rw [List.length_take]; omega
  have hdl : (l.drop K).length ≤ l.length:= by simp
  have hsum : (l.take K).length + (l.drop K).length = l.length:= by simp; omega
  have hA:= C_Addrs (l.take K) (by omega)
  generalize hτ : (if l.take K = [] then [7] else [20]) = τ at hA
  have a1 : ∀ (s : List (Nat × AV)) (c : List (Nat × List AV)),avApp 1 4 [] 40 s c (.sl (.own (37 :: τ)) 1 ((l.take K).map aI)) (.sl (.own [39]) 1 [aI a]) = some (mkE (putA (mapV (strip (37 :: τ)) s) 40 (.sl (.own [40]) 1 ((l.take K).map aI ++ [aI a]))) (mapV (stripL (37 :: τ)) c)):= fun s c =>
   avApp_ownG 1 4 1 40 [] (37 :: τ) s c _ _ (.own [39]) (by simp only [List.length_map,List.length_singleton]; omega) (by decide) rfl (.inl rfl) rfl
  have a2 : ∀ (s : List (Nat × AV)) (c : List (Nat × List AV)),avApp 1 4 [] 45 s c (.sl (.own [40]) 1 ((l.take K).map aI ++ [aI a])) (.sl .none 1 ((l.drop K).map aI)) = some (mkE (putA (mapV (strip [40]) s) 45 (.sl (.own [45]) 1 ((l.take K).map aI ++ [aI a] ++ (l.drop K).map aI))) (mapV (stripL [40]) c)):= fun s c =>
   avApp_ownG 1 4 1 45 [] [40] s c _ _ .none (by simp only [List.length_map,List.length_append,List.length_singleton]; omega) (by decide) rfl (.inl rfl) rfl
  by_cases heq : l[K]? = some a
  ·have hkl : K < l.length:= (List.getElem?_eq_some_iff.1 heq).1
   have h : decide ((K : Int) < (l.length : Int)) = true:= by simp; omega
   rw [if_pos heq] at hput ⊢
   rw [hput]
   simp only [go_sem,h,of_decide_eq_true h,heq,Int.toNat_natCast,Int.natCast_nonneg,List.getElem?_map,hr]
  ·rw [if_neg heq] at hput ⊢
   rw [hput,List.map_append,List.map_append,show [a].map aI = [aI a] from rfl]
   by_cases hkl : K < l.length
   ·have h : decide ((K : Int) < (l.length : Int)) = true:= by simp; omega
    obtain ⟨x,hx⟩ : ∃ x,l[K]? = some x:= ⟨l[K],List.getElem?_eq_getElem hkl⟩
    have hxa : (x == a) = false:= by
     cases hb : x == a with
     | false => rfl
     | true => exact absurd (by rw [hx]; congr 1; simpa using hb) heq
    simp only [go_sem,h,of_decide_eq_true h,hx,Int.toNat_natCast,Int.natCast_nonneg,List.getElem?_map,hr,hxa,q1,q2]
    refine callX_of hA ?_
    simp only [go_sem,a1,q2,a2]
   ·have h : decide ((K : Int) < (l.length : Int)) = false:= by simp; omega
    simp only [go_sem,h,q1]
    refine callX_of hA ?_
    simp only [go_sem,a1,q2,a2]
theorem C_Put (l : List Int) (a : Int) (hl : l.length ≤ 4294967294) : AC Tryz.prog f_q52 [.sl .none 1 (l.map aI),aI a] (.sl .none 1 ((putIn l a).map aI)):= by
 obtain ⟨K,H⟩:= putAt_ex a l
 have h:= W_Put l a K H hl
 by_cases heq : l[K]? = some a
 ·rw [if_pos heq] at h
  exact ac_q52 h (Nat.le_add_left 2 _)
 ·rw [if_neg heq] at h
  exact AC_weak (ac_q52 h (Nat.le_add_left 2 _)) fun E v hv => rep_own hv
end Go.Proofs.YtnndbbmidoidpaaGreatDoor.VL
end

section
set_option maxHeartbeats 4000000
namespace Go.Proofs.YtnndbbmidoidpaaGreatDoor.VL
open Go.RowKit Go.Proofs
def putsI (P : List Int) (l : List Nat) : List Int:= l.foldl (fun (P : List Int) (n : Nat) => putIn P (n : Int)) P
theorem puts_mem {a : Int} : ∀ {l : List Nat} {P : List Int},a ∈ putsI P l ↔ a ∈ P ∨ ∃ n ∈ l,a = (n : Int)
 | [],P => by simp [putsI]
 | x :: l,P => by
  have ih : a ∈ putsI (putIn P x) l ↔ _:= puts_mem
  rw [show putsI P (x :: l) = putsI (putIn P x) l from rfl,ih,mem_put]
  simp only [List.mem_cons]
  constructor
  ·rintro ((h | h) | ⟨n,hn,h⟩)
   ·exact .inr ⟨x,.inl rfl,h⟩
   ·exact .inl h
   ·exact .inr ⟨n,.inr hn,h⟩
  ·rintro (h | ⟨n,rfl | hn,h⟩)
   ·exact .inl (.inr h)
   ·exact .inl (.inl h)
   ·exact .inr ⟨n,hn,h⟩
theorem puts_rising : ∀ {l : List Nat} {P : List Int},Rising P → Rising (putsI P l)
 | [],P,h => h
 | x :: l,P,h => puts_rising (l:= l) (put_rising h)
theorem puts_len : ∀ (l : List Nat) (P : List Int),(putsI P l).length ≤ P.length + l.length
 | [],P => by simp [putsI]
 | x :: l,P => by
  have h1:= puts_len l (putIn P x)
  have h2:= put_len (x : Int) P
  rw [show putsI P (x :: l) = putsI (putIn P x) l from rfl]
  simp only [List.length_cons]
  omega
theorem puts_take (P : List Int) (l : List Nat) {i x : Nat} (hx : l[i]? = some x) : putsI P (l.take (i + 1)) = putIn (putsI P (l.take i)) (x : Int):= by
 rw [putsI,List.take_add_one,hx,Option.toList_some,List.foldl_append]
 rfl
theorem put_ne (l : List Int) (a : Int) : putIn l a ≠ []:= by
 intro h
 have : a ∈ putIn l a:= mem_put.2 (.inl rfl)
 rw [h] at this
 cases this
def scg (w : NW) : List Nat:= w.scs.map fun x => x.g
def gsR (w : NW) : List Int:= putsI (putsI [] (scg w)) (mgs w)
theorem gsR_eq (w : NW) : gsR w = rise (zs (gsL w)):= by
 refine rising_ext (puts_rising (puts_rising List.Pairwise.nil)) (rise_rising _) fun a => ?_
 rw [gsR,puts_mem,puts_mem,mem_rise,zs,List.mem_map,gsL]
 simp only [List.mem_append,List.not_mem_nil,false_or]
 constructor
 ·rintro (⟨n,hn,h⟩ | ⟨n,hn,h⟩)
  ·exact ⟨n,.inr hn,h.symm⟩
  ·exact ⟨n,.inl hn,h.symm⟩
 ·rintro ⟨n,hn | hn,h⟩
  ·exact .inr ⟨n,hn,h.symm⟩
  ·exact .inl ⟨n,hn,h.symm⟩
def rowGr (P : List Int) : AV:= if P = [] then .sl .nil 0 [] else .sl .none 1 (P.map aI)
theorem rowGr_nil : rowGr [] = .sl .nil 0 []:= rfl
theorem rowGr_cons (x : Int) (l : List Int) : rowGr (x :: l) = .sl .none 1 (aI x :: l.map aI):= rfl
theorem rowGr_ne {P : List Int} (h : P ≠ []) : rowGr P = .sl .none 1 (P.map aI):= if_neg h
theorem wk_rowGr (P : List Int) : Wk (rowGr P) (.sl .none 1 (P.map aI)):= by
 intro E v h
 by_cases hP : P = []
 ·subst hP; exact rep_sl0 h
 ·rwa [rowGr_ne hP] at h
theorem resOK_rowGr (P : List Int) : resOK (rowGr P) = true:= by
 unfold rowGr
 split <;> rfl
theorem C_PutP (P : List Int) (n : Nat) (hl : P.length ≤ 4294967294) : AC Tryz.prog f_q52 [rowGr P,.lit (.int .u32 (n : Nat))] (.sl .none 1 ((putIn P (n : Int)).map aI)) :=
 (C_Put P (n : Int) hl).wk ⟨wk_rowGr P,Wk.rfl _,trivial⟩
theorem C_rGroups8 (w : NW) (hv : vNet w = none) : AC Tryz.prog f_q23 [.agg (netV w)] (.sl .none 1 ((rise (zs (gsL w))).map aI)):= by
 rw [← gsR_eq]
 have z6 : w.scs.length ≤ 8:= len_le hv 5 (by decide)
 have z7 : w.mbs.length ≤ 24:= len_le hv 6 (by decide)
 refine AC_weak (ac_q23 (r:= rowGr (gsR w)) ?_ (Nat.le_add_left 1 _) (resOK_rowGr _)) (wk_rowGr _)
 simp only [go_sem,c_q23,one_net,len_net,take_net,Nat.le_refl]
 refine aw_loop (fun m E => ∃ i : Nat,i + m = w.scs.length ∧ E = mkE [(1,.lp 1 0),(3,rowGr (putsI [] ((scg w).take i))),(4,.lit (.int .i64 (i : Nat)))] [(1,netV w)]) w.scs.length ?_ ?_
 ·exact ⟨0,by omega,rfl⟩
 ·rintro m _ ⟨i,him,rfl⟩
  by_cases hil : i < w.scs.length
  ·have f1 : ((i : Int) < (w.scs.length : Int)) = True:= eq_true (by omega)
   have hw:= wrap_succ i (by omega)
   obtain ⟨x,hx⟩ : ∃ x,w.scs[i]? = some x:= ⟨w.scs[i],List.getElem?_eq_getElem hil⟩
   have hg : (scg w)[i]? = some x.g:= by rw [scg,List.getElem?_map,hx]; rfl
   have e1:= puts_take [] (scg w) hg
   have e2:= put_ne (putsI [] ((scg w).take i)) x.g
   have hl:= puts_len ((scg w).take i) []
   rw [List.length_take,List.length_nil] at hl
   have hC:= C_PutP (putsI [] ((scg w).take i)) x.g (by have : (scg w).length = w.scs.length:= List.length_map _; omega)
   generalize putsI [] ((scg w).take i) = P at *
   cases P with
   | nil =>
    rw [rowGr_nil] at hC
    simp only [go_sem,rowGr_nil,netV,List.length_map,f1,decide_true,Int.natCast_nonneg,Int.toNat_natCast,List.getElem?_map,hx,Option.map_some,rowAgg,avSource,avU]
    refine callX_of hC ?_
    simp only [go_sem,hw]
    exact ⟨m - 1,by omega,i + 1,by omega,by rw [e1,rowGr_ne e2]⟩
   | cons z zs =>
    rw [rowGr_cons] at hC
    simp only [go_sem,rowGr_cons,netV,List.length_map,f1,decide_true,Int.natCast_nonneg,Int.toNat_natCast,List.getElem?_map,hx,Option.map_some,rowAgg,avSource,avU]
    refine callX_of hC ?_
    simp only [go_sem,hw]
    exact ⟨m - 1,by omega,i + 1,by omega,by rw [e1,rowGr_ne e2]⟩
  ·have f1 : ((i : Int) < (w.scs.length : Int)) = False:= eq_false (by omega)
   have e : i = w.scs.length:= by omega
   have eS : (scg w).take i = scg w:= List.take_of_length_le (by simp [scg,e])
   rw [eS]
   have hS:= puts_len (scg w) []
   have hS2 : (scg w).length = w.scs.length:= List.length_map _
   rw [List.length_nil] at hS
   have eG : gsR w = putsI (putsI [] (scg w)) (mgs w):= rfl
   rw [eG]
   generalize putsI [] (scg w) = S at *
   simp only [go_sem,netV,List.length_map,f1,decide_false]
   refine aw_loop (fun m E => ∃ i : Nat,i + m = w.mbs.length ∧ E = mkE [(1,.lp 1 0),(3,rowGr (putsI S ((mgs w).take i))),(5,.lit (.int .i64 (i : Nat)))] [(1,netV w)]) w.mbs.length ?_ ?_
   ·exact ⟨0,by omega,rfl⟩
   ·rintro m _ ⟨i,him,rfl⟩
    by_cases hil : i < w.mbs.length
    ·have f1 : ((i : Int) < (w.mbs.length : Int)) = True:= eq_true (by omega)
     have hw:= wrap_succ i (by omega)
     obtain ⟨x,hx⟩ : ∃ x,w.mbs[i]? = some x:= ⟨w.mbs[i],List.getElem?_eq_getElem hil⟩
     have hg : (mgs w)[i]? = some x.g:= by rw [mgs,List.getElem?_map,hx]; rfl
     have e1:= puts_take S (mgs w) hg
     have e2:= put_ne (putsI S ((mgs w).take i)) x.g
     have hl:= puts_len ((mgs w).take i) S
     rw [List.length_take] at hl
     have hC:= C_PutP (putsI S ((mgs w).take i)) x.g (by have : (mgs w).length = w.mbs.length:= List.length_map _; omega)
     generalize putsI S ((mgs w).take i) = P at *
     cases P with
     | nil =>
      rw [rowGr_nil] at hC
      simp only [go_sem,rowGr_nil,netV,List.length_map,f1,decide_true,Int.natCast_nonneg,Int.toNat_natCast,List.getElem?_map,hx,Option.map_some,rowAgg,avMb,avU]
      refine callX_of hC ?_
      simp only [go_sem,hw]
      exact ⟨m - 1,by omega,i + 1,by omega,by rw [e1,rowGr_ne e2]⟩
     | cons z zs =>
      rw [rowGr_cons] at hC
      simp only [go_sem,rowGr_cons,netV,List.length_map,f1,decide_true,Int.natCast_nonneg,Int.toNat_natCast,List.getElem?_map,hx,Option.map_some,rowAgg,avMb,avU]
      refine callX_of hC ?_
      simp only [go_sem,hw]
      exact ⟨m - 1,by omega,i + 1,by omega,by rw [e1,rowGr_ne e2]⟩
    ·have f1 : ((i : Int) < (w.mbs.length : Int)) = False:= eq_false (by omega)
     have e : i = w.mbs.length:= by omega
     have eM : (mgs w).take i = mgs w:= List.take_of_length_le (by simp [mgs,e])
     rw [eM]
     generalize putsI S (mgs w) = P at *
     cases P with
     | nil => simp only [go_sem,rowGr_nil,netV,List.length_map,f1,decide_false]
     | cons z zs => simp only [go_sem,rowGr_cons,netV,List.length_map,f1,decide_false]
end Go.Proofs.YtnndbbmidoidpaaGreatDoor.VL
end

section
set_option maxHeartbeats 4000000
namespace Go.Proofs.YtnndbbmidoidpaaGreatDoor.VL
open Go.RowKit Go.Proofs
theorem C_SameInts (l m : List Int) (hl : l.length < 9223372036854775808) : AC Tryz.prog f_q14 [.sl .none 1 (l.map iI),.sl .none 1 (m.map iI)] (.lit (.bool (decide (l = m)))):= by
 refine ac_q14 ?_ (Nat.le_add_left 2 _)
 by_cases h0 : l.length = m.length
 case neg =>
  have f0 : ((l.length : Int) != (m.length : Int)) = true:= by simp; omega
  have e0 : decide (l = m) = false:= by
   simp only [decide_eq_false_iff_not]
   intro e
   exact h0 (by rw [e])
  simp only [go_sem,c_q14,List.length_map,f0,e0]
 have f0 : ((l.length : Int) != (m.length : Int)) = false:= by simp; omega
 simp only [go_sem,c_q14,List.length_map,f0]
 refine aw_loop (fun n E => ∃ k : Nat,k + n = l.length ∧ l.take k = m.take k ∧ E = mkE [(0,.sl .none 1 (l.map iI)),(1,.sl .none 1 (m.map iI)),(5,.lit (.int .i64 (k : Nat)))] []) l.length ?_ ?_
 ·exact ⟨0,by omega,rfl,rfl⟩
 ·rintro n _ ⟨k,hk,ht,rfl⟩
  have hrI:= fun x => avRow_some 1 .none (AV.lit x) rfl
  by_cases hkl : k < l.length
  ·have f1 : ((k : Int) < (l.length : Int)) = True:= eq_true (by omega)
   have hw:= wrap_succ k (by omega)
   obtain ⟨a,ha⟩ : ∃ a,l[k]? = some a:= ⟨l[k],List.getElem?_eq_getElem hkl⟩
   obtain ⟨b,hb⟩ : ∃ b,m[k]? = some b:= ⟨m[k]'(by omega),List.getElem?_eq_getElem (by omega)⟩
   cases hp : a == b
   ·have e0 : decide (l = m) = false:= by
     simp only [decide_eq_false_iff_not]
     intro e
     rw [e,hb] at ha
     injection ha with ha
     rw [ha] at hp
     simp at hp
    simp only [go_sem,List.length_map,f1,decide_true,Int.natCast_nonneg,Int.toNat_natCast,List.getElem?_map,ha,hb,Option.map_some,hrI,iI,hp,e0]
   ·have e : a = b:= by simpa using hp
    simp only [go_sem,List.length_map,f1,decide_true,Int.natCast_nonneg,Int.toNat_natCast,List.getElem?_map,ha,hb,Option.map_some,hrI,iI,hp,hw]
    exact ⟨n - 1,by omega,k + 1,by omega,by rw [List.take_add_one,List.take_add_one,ht,ha,hb,e],rfl⟩
  ·have f1 : ((k : Int) < (l.length : Int)) = False:= eq_false (by omega)
   have e0 : decide (l = m) = true:= by
    simp only [decide_eq_true_eq]
    rwa [List.take_of_length_le (by omega),List.take_of_length_le (by omega)] at ht
   simp only [go_sem,List.length_map,f1,decide_false,e0]
end Go.Proofs.YtnndbbmidoidpaaGreatDoor.VL
end

