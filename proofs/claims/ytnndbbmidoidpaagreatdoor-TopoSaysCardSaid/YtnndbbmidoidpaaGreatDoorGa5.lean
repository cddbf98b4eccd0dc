import Derived.Deep.LoopGhost
import Derived.Test.YtnndbbmidoidpaaGreatDoorGa4
set_option linter.unusedVariables false
set_option linter.unusedSimpArgs false
section
namespace Go.Proofs.YtnndbbmidoidpaaGreatDoor.VL
open Go.RowKit
inductive ACode where
 | skip | ret | bad
 | region (draw : Bool) (ops : List AOper) (kl : List Nat)
 | seq (a b : ACode)
 | cond (c : Operand) (a b : ACode)
 | block (id : Nat) (a : ACode) (kl : List Nat)
 | loop (a : ACode) (kl dl : List Nat)
 | exit (id : Nat)
 | shift (a : ACode)
 | split (xs ys : List AOper) (kl : List Nat)
 | any (ops : List AOper) (deps : List (List Nat)) (t : ATree) (kl : List Nat)
 deriving Inhabited
def ACode.plain : ACode → ACode
 | .region d ops _ => .region d ops []
 | .seq a b => .seq a.plain b.plain
 | .cond c a b => .cond c a.plain b.plain
 | .block i a _ => .block i a.plain []
 | .loop a _ _ => .loop a.plain [] []
 | .shift a => a.plain
 | .split xs ys _ => .region false (xs ++ ys) []
 | .any ops deps _ _ => .any ops deps .done []
 | c => c
def resCode (P : Program) (A : List Nat) : Code → ACode
 | .skip => .skip
 | .ret => .ret
 | .region id ops d => if d then (if (okDraw P ops && !A.contains id) = true then .region true (ops.toList.map (resOperD P ops)) [] else .any (ops.toList.map (resOperT P ops)) (ops.toList.map edgesOf) .done []) else .region false (ops.toList.map (resOperT P ops)) []
 | .seq a b => .seq (resCode P A a) (resCode P A b)
 | .cond c a b => .cond c (resCode P A a) (resCode P A b)
 | .block i a => .block i (resCode P A a) []
 | .loop a => .loop (resCode P A a) [] []
 | .exit i => .exit i
 | _ => .bad
def slotsOK (N : Nat) : Code → Bool
 | .region _ ops _ => ops.toList.all fun o => match o.dst with | some d => decide (d < N) | none => true
 | .seq a b => slotsOK N a && slotsOK N b
 | .cond _ a b => slotsOK N a && slotsOK N b
 | .block _ a => slotsOK N a
 | .loop a => slotsOK N a
 | _ => true
inductive AExit where
 | normal | exit (id : Nat) | ret
def Env.dropS (E : Env) (kl : List Nat) : Env:= ⟨fun k => if kl.contains k then .dead else E.s k,E.c⟩
def thenQ (K : Env → Prop) (Q : AExit → Env → Prop) : AExit → Env → Prop
 | .normal,E => K E
 | .exit i,E => Q (.exit i) E
 | .ret,E => Q .ret E
def blockQ (id : Nat) (kl : List Nat) (Q : AExit → Env → Prop) : AExit → Env → Prop
 | .normal,E => Q .normal (E.dropS kl)
 | .exit i,E => if i = id then Q .normal (E.dropS kl) else Q (.exit i) E
 | .ret,E => Q .ret E
def aw (P : Program) : ACode → Env → (AExit → Env → Prop) → Prop
 | .skip,E,Q => Q .normal E
 | .ret,E,Q => Q .ret E
 | .bad,_,_ => False
 | .region true ops kl,E,Q => awOpsD P ops (E.freshL (allocs ops)) fun E' => Q .normal (E'.dropS kl)
 | .region false ops kl,E,Q => awOps P ops E fun E' => Q .normal (E'.dropS kl)
 | .seq a b,E,Q => aw P a E (thenQ (fun E' => aw P b E' Q) Q)
 | .cond c a b,E,Q => ∃ t,E.ev c = .lit (.bool t) ∧ (t = true → aw P a E Q) ∧ (t = false → aw P b E Q)
 | .block id a kl,E,Q => aw P a E (blockQ id kl Q)
 | .loop a kl dl,E,Q => ∃ (I : Nat → Env → Prop) (n : Nat),I n ((E.dropS kl).freshL dl) ∧ ∀ m E',I m E' → aw P a E' (thenQ (fun E'' => ∃ k,k < m ∧ I k ((E''.dropS kl).freshL dl)) Q)
 | .exit i,E,Q => Q (.exit i) E
 | .shift a,E,Q => ∃ S,VS E S ∧ ∀ E',S E' → aw P a E' Q
 | .any ops deps t kl,E,Q => chkT ops deps ops.length [] t = true ∧ awT P ops t (E.freshL (allocs ops)) fun E' => Q .normal (E'.dropS kl)
 | .split xs ys kl,E,Q => awOps P xs E fun E1 => ∃ S,VS E1 S ∧ ∀ E2,S E2 → awOps P ys E2 fun E' => Q .normal (E'.dropS kl)
section
variable {P : Program} {R : RE} {N : Nat}
theorem Inv.dropS {env : Env} {a : Act} {E : RE} (h : Inv R N env a E) (kl : List Nat) : Inv R N (env.dropS kl) a E :=
 h.forget (fun k => by simp only [Env.dropS]; split <;> simp) rfl
def AExit.to : AExit → Exit
 | .normal => .normal
 | .exit i => .exit i
 | .ret => .ret
theorem wpOps_aw2 (hR : R.Start) {ops : Array Oper} (hd : ∀ (j : Nat) (o : Oper) (k : Nat),ops[j]? = some o → o.dst = some k → k < N) {KE : Env → Prop} {Q : Exit → Act → World → Prop}
  (hQ : ∀ a' E' env',KE env' → Inv R N env' a' E' → Q .normal a' E'.w) (l2 : List Nat) :
  ∀ (l : List Nat) (env : Env) (a : Act) (E : RE),Inv R N env a E → (∀ i ∈ l ++ l2,i < ops.size) → awOps P (l.filterMap fun i => (ops[i]?).map (resOperT P ops)) env (fun E1 => ∃ S,VS E1 S ∧ ∀ E2,S E2 → awOps P (l2.filterMap fun i => (ops[i]?).map (resOperT P ops)) E2 KE) → wpOps P ops Q (l ++ l2) a E.w
 | [],env,a,E,hI,hl,h => by
  simp only [List.filterMap_nil,awOps] at h
  obtain ⟨S,hvs,h⟩:= h
  obtain ⟨env',E',hw,hS,hI'⟩:= hvs R N a E hR hI
  rw [← hw]
  exact wpOps_aw hR hd hQ l2 env' a E' hI' (fun i hi => hl i (by simpa using hi)) (h env' hS)
 | i :: l,env,a,E,hI,hl,h => by
  have hi : i < ops.size:= hl i (by simp)
  have ho : ops[i]? = some ops[i]:= Array.getElem?_eq_getElem hi
  rw [List.cons_append,wpOps_cons]
  rw [List.filterMap_cons,ho] at h
  simp only [Option.map_some] at h
  refine wpOp_awT hI hR ho hd (KE:= fun env' => awOps P (l.filterMap fun i => (ops[i]?).map (resOperT P ops)) env' (fun E1 => ∃ S,VS E1 S ∧ ∀ E2,S E2 → awOps P (l2.filterMap fun i => (ops[i]?).map (resOperT P ops)) E2 KE)) ?_ fun v E' env' hk hI' => wpOps_aw2 hR hd hQ l2 l env' _ E' hI' (fun j hj => hl j (by simp only [List.cons_append,List.mem_cons]; exact .inr hj)) hk
  have hdst : (resOperT P ops ops[i]).dst = ops[i].dst:= by
   show (resOper P ops ops[i]).dst = _
   unfold resOper; split <;> rfl
  simp only [awOps,hdst] at h
  split <;> rename_i hg <;> rw [hg] at h <;> exact h
theorem wp_region_aw2 {env : Env} {a : Act} {E : RE} (hI : Inv R N env a E) (hR : R.Start) {id : Nat} {ops : Array Oper} (hd : ∀ (j : Nat) (o : Oper) (k : Nat),ops[j]? = some o → o.dst = some k → k < N) {KE : Env → Prop} {Q : Exit → Act → World → Prop} {xs ys : List AOper} (hxy : ops.toList.map (resOperT P ops) = xs ++ ys)
  (h : awOps P xs env (fun E1 => ∃ S,VS E1 S ∧ ∀ E2,S E2 → awOps P ys E2 KE)) (hQ : ∀ a' E' env',KE env' → Inv R N env' a' E' → Q .normal a' E'.w) : (Code.region id ops false).wp P Q a E.w:= by
 have hall:= filterMap_range ops (resOperT P ops)
 rw [hxy] at hall
 have hlen : xs.length ≤ ops.size:= by
  have:= congrArg List.length hxy
  simp at this
  omega
 have hsplit : List.range ops.size = List.range xs.length ++ (List.range' xs.length (ops.size - xs.length)):= by
  obtain ⟨k,hk⟩ : ∃ k,ops.size = xs.length + k:= ⟨ops.size - xs.length,by omega⟩
  rw [hk,Nat.add_sub_cancel_left,List.range_eq_range',List.range_eq_range']
  have:= @List.range'_append_1 0 xs.length k
  rw [Nat.zero_add] at this
  exact this.symm
 have hone : ∀ i,i < ops.size → ((ops[i]?).map (resOperT P ops)).isSome = true:= fun i hi => by simp [hi]
 rw [hsplit,List.filterMap_append] at hall
 have fl : ∀ (l : List Nat),(∀ i ∈ l,i < ops.size) → (l.filterMap fun i => (ops[i]?).map (resOperT P ops)).length = l.length:= by
  intro l hl
  induction l with
  | nil => rfl
  | cons i l ih =>
   have hi:= hl i (by simp)
   rw [List.filterMap_cons,Array.getElem?_eq_getElem hi]
   simp only [Option.map_some,List.length_cons,ih fun j hj => hl j (by simp [hj])]
 obtain ⟨e1,e2⟩:= List.append_inj hall (by rw [fl _ (fun i hi => by have:= List.mem_range.1 hi; omega)]; simp)
 refine wp_region ?_
 rw [hsplit]
 refine wpOps_aw2 hR hd hQ _ _ env a E hI (fun i hi => ?_) ?_
 ·rw [← hsplit] at hi
  exact List.mem_range.1 hi
 ·rw [e1,e2]
  exact h
theorem aw_sound {A : List Nat} (hR : R.Start) (hm : P.follows .mixedOrders = true) : ∀ (body : ACode) (code : Code) (env : Env) (a : Act) (E : RE) (QA : AExit → Env → Prop) (Q : Exit → Act → World → Prop),
  resCode P A code = body.plain → slotsOK N code = true → Inv R N env a E → aw P body env QA → (∀ ex env' a' E',QA ex env' → Inv R N env' a' E' → Q ex.to a' E'.w) → code.wp P Q a E.w:= by
 have hdOf : ∀ {id : Nat} {ops : Array Oper} {d : Bool},slotsOK N (.region id ops d) = true → ∀ (j : Nat) (o : Oper) (k : Nat),ops[j]? = some o → o.dst = some k → k < N:= by
  intro id ops d h j o k ho hk
  simp only [slotsOK,List.all_eq_true] at h
  have:= h o (by have:= List.mem_of_getElem? (l:= ops.toList) (i:= j) (by simpa using ho); exact this)
  rw [hk] at this
  simpa using this
 intro body
 induction body with
 | skip =>
  intro code env a E QA Q hres hN hI h hQ
  cases code <;> simp only [resCode,ACode.plain] at hres <;> first
   | exact wp_skip (hQ _ _ _ _ h hI)
   | (cases hres; done)
   | (split at hres <;> (try split at hres) <;> cases hres; done)
 | ret =>
  intro code env a E QA Q hres hN hI h hQ
  cases code <;> simp only [resCode,ACode.plain] at hres <;> first
   | exact wp_ret (hQ .ret _ _ _ h hI)
   | (cases hres; done)
   | (split at hres <;> (try split at hres) <;> cases hres; done)
 | bad => intro code env a E QA Q hres hN hI h hQ; exact h.elim
 | exit i =>
  intro code env a E QA Q hres hN hI h hQ
  cases code <;> simp only [resCode,ACode.plain] at hres <;> first
   | (injection hres with hres; subst hres; exact wp_exit (hQ (.exit _) _ _ _ h hI))
   | (cases hres; done)
   | (split at hres <;> (try split at hres) <;> cases hres; done)
 | shift x ih =>
  intro code env a E QA Q hres hN hI h hQ
  simp only [ACode.plain] at hres
  simp only [aw] at h
  obtain ⟨S,hvs,h⟩:= h
  obtain ⟨env',E',hw,hS,hI'⟩:= hvs R N a E hR hI
  rw [← hw]
  exact ih code env' a E' QA Q hres hN hI' (h env' hS) hQ
 | split xs ys kl =>
  intro code env a E QA Q hres hN hI h hQ
  cases code <;> simp only [resCode,ACode.plain] at hres <;> first
   | (cases hres; done)
   | skip
  rename_i id cops cd
  have hd:= hdOf hN
  cases cd with
  | true =>
   rw [if_pos rfl] at hres
   split at hres <;> cases hres
  | false =>
   rw [if_neg (by simp)] at hres
   injection hres with h1 h2
   simp only [aw] at h
   exact wp_region_aw2 hI hR hd h2 h fun a' E' env' hk hI' => hQ .normal _ _ _ hk (hI'.dropS kl)
 | region d ops kl =>
  intro code env a E QA Q hres hN hI h hQ
  cases code <;> simp only [resCode,ACode.plain] at hres <;> first
   | (cases hres; done)
   | skip
  rename_i id cops cd
  have hd:= hdOf hN
  cases cd with
  | true =>
   rw [if_pos rfl] at hres
   split at hres
   ·rename_i hok
    injection hres with h1 h2
    subst h1 h2
    simp only [aw] at h
    rw [Bool.and_eq_true] at hok
    exact wp_draw_aw hI hR hm hok.1 hd h fun a' E' env' hk hI' => hQ .normal _ _ _ hk (hI'.dropS kl)
   ·cases hres
  | false =>
   rw [if_neg (by simp)] at hres
   injection hres with h1 h2
   subst h1 h2
   simp only [aw] at h
   exact wp_region_aw hI hR hd h fun a' E' env' hk hI' => hQ .normal _ _ _ hk (hI'.dropS kl)
 | any ops deps t kl =>
  intro code env a E QA Q hres hN hI h hQ
  cases code <;> simp only [resCode,ACode.plain] at hres <;> first
   | (cases hres; done)
   | skip
  rename_i id cops cd
  have hd:= hdOf hN
  cases cd with
  | true =>
   rw [if_pos rfl] at hres
   split at hres
   ·cases hres
   ·injection hres with h1 h2
    subst h1 h2
    simp only [aw,List.length_map,Array.length_toList] at h
    exact wp_draw_tree hI hR hm hd h.1 h.2 fun a' E' env' hk hI' => hQ .normal _ _ _ hk (hI'.dropS kl)
  | false =>
   rw [if_neg (by simp)] at hres
   cases hres
 | seq x y ihx ihy =>
  intro code env a E QA Q hres hN hI h hQ
  cases code <;> simp only [resCode,ACode.plain] at hres <;> first
   | (cases hres; done)
   | (split at hres <;> (try split at hres) <;> cases hres; done)
   | skip
  rename_i cx cy
  injection hres with h1 h2
  simp only [slotsOK,Bool.and_eq_true] at hN
  simp only [aw] at h
  refine wp_seq (ihx cx env a E _ _ h1 hN.1 hI h ?_)
  intro ex env' a' E' hq hI'
  cases ex with
  | normal => exact ihy cy env' a' E' QA Q h2 hN.2 hI' hq hQ
  | exit i => exact hQ (.exit i) _ _ _ hq hI'
  | ret => exact hQ .ret _ _ _ hq hI'
 | cond c x y ihx ihy =>
  intro code env a E QA Q hres hN hI h hQ
  cases code <;> simp only [resCode,ACode.plain] at hres <;> first
   | (cases hres; done)
   | (split at hres <;> (try split at hres) <;> cases hres; done)
   | skip
  rename_i cc cx cy
  injection hres with h0 h1 h2
  subst h0
  simp only [slotsOK,Bool.and_eq_true] at hN
  simp only [aw] at h
  obtain ⟨t,ht,hx,hy⟩:= h
  have hc:= hI.ev cc
  rw [ht] at hc
  simp only [Rep] at hc
  exact wp_cond_split hc (fun e => ihx cx env a E QA Q h1 hN.1 hI (hx e) hQ) (fun e => ihy cy env a E QA Q h2 hN.2 hI (hy e) hQ)
 | block i x kl ih =>
  intro code env a E QA Q hres hN hI h hQ
  cases code <;> simp only [resCode,ACode.plain] at hres <;> first
   | (cases hres; done)
   | (split at hres <;> (try split at hres) <;> cases hres; done)
   | skip
  rename_i ci cx
  injection hres with h0 h1
  subst h0
  simp only [slotsOK] at hN
  simp only [aw] at h
  refine wp_block (ih cx env a E _ _ h1 hN hI h ?_)
  intro ex env' a' E' hq hI'
  cases ex with
  | normal => exact hQ .normal _ _ _ hq (hI'.dropS kl)
  | exit j =>
   simp only [blockQ] at hq
   show Exit.inBlock ci Q (.exit j) a' E'.w
   simp only [Exit.inBlock]
   split at hq
   ·rename_i hj
    rw [if_pos hj]
    exact hQ .normal _ _ _ hq (hI'.dropS kl)
   ·rename_i hj
    rw [if_neg hj]
    exact hQ (.exit j) _ _ _ hq hI'
  | ret => exact hQ .ret _ _ _ hq hI'
 | loop x kl dl ih =>
  intro code env a E QA Q hres hN hI h hQ
  cases code <;> simp only [resCode,ACode.plain] at hres <;> first
   | (cases hres; done)
   | (split at hres <;> (try split at hres) <;> cases hres; done)
   | skip
  rename_i cx
  injection hres with h1
  simp only [slotsOK] at hN
  simp only [aw] at h
  obtain ⟨I,n,h0,hround⟩:= h
  have start : ∀ {env : Env} {a : Act} {E : RE} {k : Nat},Inv R N env a E → I k ((env.dropS kl).freshL dl) → ∃ env' E',E'.w = E.w ∧ I k env' ∧ Inv R N env' a E':= by
   intro env a E k hI hk
   obtain ⟨E1,hw,hI1⟩:= (hI.dropS kl).freshL dl
   exact ⟨_,E1,hw,hk,hI1⟩
  refine wp_loop_ghost (fun k a w => ∃ env' E',E'.w = w ∧ I k env' ∧ Inv R N env' a E') n (start hI h0) ?_
  rintro m a1 w1 ⟨env1,E1,rfl,hI1,hinv⟩
  refine ih cx env1 a1 E1 _ _ h1 hN hinv (hround m env1 hI1) ?_
  intro ex env' a' E' hq hI'
  cases ex with
  | normal =>
   obtain ⟨k,hlt,hk⟩:= hq
   exact ⟨k,hlt,start hI' hk⟩
  | exit j => exact hQ (.exit j) _ _ _ hq hI'
  | ret => exact hQ .ret _ _ _ hq hI'
inductive RV where
 | tmp (t : Nat)
 | cell (agg : Bool) (size t : Nat)
def resRV (P : Program) : ResultVar → Option RV
 | .tmp t => some (.tmp t)
 | .cell t ty => match isAggB P ty,P.info? ty with
  | some b,some i => some (.cell b i.size t)
  | _,_ => none
def rvVal (E : Env) : RV → Option AV
 | .tmp t => some (E.s t)
 | .cell agg size t => match E.s t with
  | .lp c o => match E.c c with
   | some cs => aval.ld agg size (cs.drop o)
   | none => none
  | _ => none
def locC (C : Nat → Option (List AV)) : Nat → Option (List AV):= fun c => if c < 100000 then C c else none
def retC (E : Env) (ks : List Nat) : Option (List (Nat × List AV)):= mapO (fun k => match E.c k with
 | some cs => match mapO (retv (locC E.c) false 8) cs with
  | some l => some (k,l)
  | none => none
 | none => none) ks
def retR (E : Env) (rvs : List RV) : Option AV :=
 match mapO (rvVal E) rvs with
 | some xs => match mapO (retv (locC E.c) true 8) xs with
  | some [y] => some y
  | some ys => some (.tup ys)
  | none => none
 | none => none
def args0 : List AV → Nat → List (Nat × AV)
 | [],_ => []
 | x :: xs,k => (k,x) :: args0 xs (k + 1)
def env0M (args : List AV) (c0 : List (Nat × List AV)) : Env:= ⟨getA (args0 args 0),getC c0⟩
abbrev env0 (args : List AV) : Env:= env0M args []
end
end Go.Proofs.YtnndbbmidoidpaaGreatDoor.VL
end

section
namespace Go.Proofs.YtnndbbmidoidpaaGreatDoor.VL
open Go.RowKit
section
variable {P : Program} {R : RE} {N : Nat} {env : Env} {a : Act} {E : RE}
def RE.left (E : RE) : RE:= { E with S:= fun b o => E.S b o ∨ (∃ c,c < 100000 ∧ E.loc c = some b) ∨ ∃ t,E.mloc t = some b,loc:= fun c => if c < 100000 then none else E.loc c,mloc:= fun _ => none }
theorem Inv.ext_left (h : Inv R N env a E) : Ext E.closed E.left.closed :=
 ⟨fun _ _ h => .inl h,fun _ h => h,fun _ _ _ _ hc => hc,fun _ _ _ _ hc => hc,fun c b hc => by simp [RE.closed] at hc,fun g τ hg => (hg : False).elim,rfl,fun c b hc => by simp [RE.closed] at hc⟩
theorem Inv.own_loc (h : Inv R N env a E) (hlim : ∀ c b,R.loc c = some b → 100000 ≤ c) {c b : Nat} (hc : c < 100000) (hb : E.loc c = some b) : R.w.heap.size ≤ b:= by
 rcases (h.locc c b hb).1 with h1 | h1
 ·exact h1
 ·have:= hlim c b h1; omega
theorem Inv.after (h : Inv R N env a E) (hlim : ∀ c b,R.loc c = some b → 100000 ≤ c) : After R E.left:= by
 refine ⟨h.below,fun k hk o hs => ?_,fun b o hb => ?_,fun b o hs => ?_,h.G,h.ownlt,h.own1,fun c b hc => ?_⟩
 ·rcases hs with hs | ⟨c,hc,hs⟩ | ⟨t,hs⟩
  ·exact h.MS k hk o hs
  ·have:= h.own_loc hlim hc hs; have:= h.Mlt k hk; omega
  ·have:= (h.mlocc t k hs).1; have:= h.Mlt k hk; omega
 ·rw [← h.S0 b o hb]
  constructor
  ·rintro (hs | ⟨c,hc,hs⟩ | ⟨t,hs⟩)
   ·exact hs
   ·have:= h.own_loc hlim hc hs; omega
   ·have:= (h.mlocc t b hs).1; omega
  ·exact .inl
 ·rcases hs with hs | ⟨c,_,hc⟩ | ⟨t,hs⟩
  ·exact h.Slt b o hs
  ·obtain ⟨_,_,_,_,_,_,_,hh,_⟩:= h.locc c b hc
   exact lt_of_heap hh
  ·exact (h.mlocc t b hs).2.1
 ·simp only [RE.left] at hc
  split at hc
  ·cases hc
  ·exact h.lentl c b hc (by omega)
def keepRE (keep : Bool) (E : RE) : RE:= if keep then E.left else E.left.closed
theorem keep_closed (keep : Bool) (E : RE) : (keepRE keep E).closed = E.left.closed:= by cases keep <;> rfl
theorem keep_w (keep : Bool) (E : RE) : (keepRE keep E).w = E.w:= by cases keep <;> rfl
theorem keep_S (keep : Bool) (E : RE) : (keepRE keep E).S = E.left.S:= by cases keep <;> rfl
theorem keep_G (keep : Bool) (E : RE) : (keepRE keep E).G = E.G:= by cases keep <;> rfl
theorem retv_rep (h : Inv R N env a E) : ∀ (n : Nat) (keep : Bool) {x y : AV} {v : Value},retv (locC env.c) keep n x = some y → Rep E x v → Rep (keepRE keep E) y v
 | 0,keep,x,y,v,hl,hr => by simp [retv] at hl
 | n + 1,keep,x,y,v,hl,hr => by
  have ih : ∀ keep x y v,retv (locC env.c) keep n x = some y → Rep E x v → Rep (keepRE keep E) y v:= fun keep x y v => retv_rep h n keep
  cases x with
  | lit u => simp only [retv] at hl; injection hl with hl; subst hl; simpa only [Rep] using hr
  | gl i => simp only [retv] at hl; injection hl with hl; subst hl; simp only [Rep,keep_G] at hr ⊢; exact hr
  | mp k vs =>
   simp only [retv] at hl; injection hl with hl; subst hl
   simp only [Rep,keep_closed,keep_w,keep_S] at hr ⊢
   obtain ⟨b,es,ck,vs',rfl,hh,hs,hk,hv,hrr⟩:= hr
   exact ⟨b,es,ck,vs',rfl,hh,.inl hs,hk,hv,hrr.mono h.ext_left⟩
  | rp cs =>
   simp only [retv] at hl; injection hl with hl; subst hl
   simp only [Rep,keep_closed,keep_w,keep_S] at hr ⊢
   obtain ⟨b,o,vs,rfl,hrr,hat⟩:= hr
   exact ⟨b,o,vs,rfl,hrr.mono h.ext_left,hat.mono (fun _ _ h => .inl h) fun _ _ _ _ hc => hc⟩
  | bp cs => simp [retv] at hl
  | gp g => simp [retv] at hl
  | dead => simp only [retv] at hl; injection hl with hl; subst hl; simp only [Rep]
  | mu t k vs =>
   simp only [retv] at hl; injection hl with hl; subst hl
   simp only [Rep,keep_closed,keep_w,keep_S] at hr ⊢
   obtain ⟨b,es,ck,vs',hb,rfl,hh,hk,hv,hrr⟩:= hr
   exact ⟨b,es,ck,vs',rfl,hh,.inr (.inr ⟨t,hb⟩),hk,hv,hrr.mono h.ext_left⟩
  | mf t al =>
   simp only [retv] at hl
   split at hl
   ·rename_i hk
    injection hl with hl
    subst hl
    simp only [Rep,keep_w,keep_S] at hr ⊢
    obtain ⟨b,rfl,hr⟩:= hr
    refine ⟨b,rfl,fun e => ?_⟩
    obtain ⟨hh,hown,hs⟩:= hr e
    refine ⟨hh,by rw [hk]; exact hown,fun o ho => ?_⟩
    rcases ho with ho | ⟨c,_,hc⟩ | ⟨t',hc⟩
    ·exact hs o ho
    ·exact absurd hown ((h.locc c b hc).2.2.1 t)
    ·exact absurd hown ((h.mlocc t' b hc).2.2.2.1 t)
   ·cases hl
  | clo f p q =>
   simp only [retv] at hl
   split at hl
   ·rename_i l hml
    split at hl
    ·rename_i m hmm
     injection hl with hl
     subst hl
     simp only [Rep] at hr ⊢
     obtain ⟨fs,cs,rfl,h1,h2⟩:= hr
     exact ⟨fs,cs,rfl,mapO_rep (ih keep) hml h1,mapO_rep (ih keep) hmm h2⟩
    ·cases hl
   ·cases hl
  | ml c o len cap g e =>
   simp only [Rep] at hr
   obtain ⟨b,hb,rfl⟩:= hr
   simp only [retv] at hl
   split at hl
   ·rename_i hc
    split at hl
    ·rename_i hk
     injection hl with hl
     subst hl
     simp only [Rep]
     refine ⟨b,?_,rfl⟩
     rw [hk]
     show (if c < 100000 then none else E.loc c) = some b
     rw [if_neg (by omega)]
     exact hb
    ·cases hl
   ·split at hl
    ·rename_i cs hcs0
     unfold locC at hcs0
     split at hcs0
     case isFalse => cases hcs0
     rename_i hclt
     have hcs : env.c c = some cs:= hcs0
     split at hl
     ·rename_i hcond
      split at hl
      ·rename_i l hml
       injection hl with hl
       subst hl
       obtain ⟨h1,h2,h3,cs',vals,ty,hcs',hh,hrr,ho⟩:= h.locc c b hb
       rw [hcs] at hcs'
       injection hcs' with hcs'
       subst hcs'
       have hrl:= hrr.length
       have hq : RepL E.left.closed l ((vals.toList.drop o).take (len * e)):= mapO_rep (E':= E.left.closed) (ih false) hml ((hrr.drop o).take _)
       obtain ⟨k1,k2,k3⟩:= chunk_rep hcond.2.2 len hq (by rw [List.length_take,List.length_drop]; omega) fun u hu => ho u (List.mem_of_mem_drop (List.mem_of_mem_take hu))
       simp only [Rep,keep_closed,keep_w,keep_S]
       refine ⟨_,cap,_,by rw [chunk_length],by rw [chunk_length]; exact hcond.2.1,k1,k3,fun u hu => ?_,fun _ => ⟨b,o,rfl,?_⟩⟩
       ·rw [k2] at hu
        exact ho u (List.mem_of_mem_drop (List.mem_of_mem_take hu))
       ·rw [k2]
        intro j u hj
        refine ⟨.inr (.inl ⟨c,hclt,hb⟩),?_⟩
        rw [List.getElem?_take] at hj
        split at hj
        ·rw [List.getElem?_drop] at hj
         simp [World.cell?,hh]
         simpa using hj
        ·cases hj
      ·cases hl
     ·cases hl
    ·cases hl
  | sl t e rows =>
   have base : ∀ t',(t' = .none ∨ t' = .nil) → (t = t' ∨ (t' = .none ∧ ∃ τ,t = .own τ)) → Rep (keepRE keep E) (.sl t' e rows) v:= by
    intro t' ht' hrel
    simp only [Rep,keep_closed,keep_w,keep_S] at hr ⊢
    obtain ⟨A,cap,vs,rfl,hcap,hrr,he,ho,htk⟩:= hr
    refine ⟨A,cap,vs,rfl,hcap,hrr.mono h.ext_left,he,ho,?_⟩
    rcases hrel with rfl | ⟨rfl,τ,rfl⟩
    ·rcases ht' with rfl | rfl
     ·exact fun hne => let ⟨b,o,hA,hat⟩:= htk hne; ⟨b,o,hA,hat.mono (fun _ _ h => .inl h) fun _ _ _ _ hc => hc⟩
     ·exact htk
    ·intro hne
     rcases htk with ⟨_,h0⟩ | ⟨g,cur,ty,hA,hat,_⟩
     ·exact absurd (List.eq_nil_of_length_eq_zero (by omega)) hne
     ·exact ⟨g,0,hA,hat.mono (fun _ _ h => .inl h) fun _ _ _ _ hc => hc⟩
   cases t with
   | bor => simp [retv] at hl
   | none => simp only [retv] at hl; injection hl with hl; subst hl; exact base _ (.inl rfl) (.inl rfl)
   | nil => simp only [retv] at hl; injection hl with hl; subst hl; exact base _ (.inr rfl) (.inl rfl)
   | own τ =>
    simp only [retv] at hl
    split at hl
    ·rename_i hk
     injection hl with hl
     subst hl
     simp only [Rep,keep_closed,keep_w,keep_S] at hr ⊢
     obtain ⟨A,cap,vs,rfl,hcap,hrr,he,ho,htk⟩:= hr
     refine ⟨A,cap,vs,rfl,hcap,hrr.mono h.ext_left,he,ho,?_⟩
     rcases htk with htk | ⟨g,cur,ty,hA,hat,hh,hm,hc,hown,hs⟩
     ·exact .inl htk
     ·refine .inr ⟨g,cur,ty,hA,hat.mono (fun _ _ h => .inl h) fun _ _ _ _ hc => hc,hh,hm,hc,by rw [hk]; exact hown,fun o ho => ?_⟩
      rcases ho with ho | ⟨c,_,hc⟩ | ⟨t',hc⟩
      ·exact hs o ho
      ·exact absurd hown ((h.locc c g hc).2.2.1 τ)
      ·exact absurd hown ((h.mlocc t' g hc).2.2.2.1 τ)
    ·injection hl with hl
     subst hl
     exact base _ (.inl rfl) (.inr ⟨rfl,τ,rfl⟩)
   | gone => simp [retv] at hl
   | fr τ =>
    simp only [retv] at hl
    split at hl
    ·rename_i hk
     injection hl with hl
     subst hl
     simp only [Rep,keep_closed,keep_w,keep_S] at hr ⊢
     obtain ⟨A,cap,vs,rfl,hcap,hrr,he,ho,htk⟩:= hr
     refine ⟨A,cap,vs,rfl,hcap,hrr.mono h.ext_left,he,ho,?_⟩
     rcases htk with htk | ⟨g,cur,ty,hA,hat,hh,hm,hc,hown,hs,h1⟩
     ·exact .inl htk
     ·refine .inr ⟨g,cur,ty,hA,hat,hh,hm,hc,by rw [hk]; exact hown,fun o ho => ?_,h1⟩
      rcases ho with ho | ⟨c,_,hc⟩ | ⟨t',hc⟩
      ·exact hs o ho
      ·exact absurd hown ((h.locc c g hc).2.2.1 τ)
      ·exact absurd hown ((h.mlocc t' g hc).2.2.2.1 τ)
    ·cases hl
  | agg cs =>
   simp only [retv] at hl
   split at hl
   ·rename_i l hml
    injection hl with hl
    subst hl
    simp only [Rep] at hr ⊢
    obtain ⟨vs,rfl,hr⟩:= hr
    exact ⟨vs,rfl,mapO_rep (ih keep) hml hr⟩
   ·cases hl
  | tup cs =>
   simp only [retv] at hl
   split at hl
   ·rename_i l hml
    injection hl with hl
    subst hl
    simp only [Rep] at hr ⊢
    obtain ⟨vs,rfl,hr⟩:= hr
    exact ⟨vs,rfl,mapO_rep (ih keep) hml hr⟩
   ·cases hl
  | ifc t u =>
   simp only [retv] at hl
   split at hl
   ·rename_i l hml
    injection hl with hl
    subst hl
    simp only [Rep] at hr ⊢
    obtain ⟨w,rfl,h1⟩:= hr
    exact ⟨w,rfl,ih keep _ _ _ hml h1⟩
   ·cases hl
  | lp c o =>
   simp only [retv] at hl
   split at hl
   ·rename_i hc
    split at hl
    ·rename_i hk
     injection hl with hl
     subst hl
     simp only [Rep] at hr ⊢
     obtain ⟨b,hb,rfl⟩:= hr
     refine ⟨b,?_,rfl⟩
     rw [hk]
     show (if c < 100000 then none else E.loc c) = some b
     rw [if_neg (by omega)]
     exact hb
    ·cases hl
   rename_i hc100
   split at hl
   ·rename_i cs hcs0
    unfold locC at hcs0
    split at hcs0
    case isFalse => cases hcs0
    rename_i hclt
    have hcs : env.c c = some cs:= hcs0
    split at hl
    ·rename_i l hml
     injection hl with hl
     subst hl
     simp only [Rep] at hr
     obtain ⟨b,hb,rfl⟩:= hr
     obtain ⟨h1,h2,h3,cs',vals,ty,hcs',hh,hrr,_⟩:= h.locc c b hb
     rw [hcs] at hcs'
     injection hcs' with hcs'
     subst hcs'
     simp only [Rep,keep_closed,keep_w,keep_S]
     refine ⟨b,o,vals.toList.drop o,rfl,mapO_rep (ih false) hml (hrr.drop o),fun j u hj => ⟨.inr (.inl ⟨c,hclt,hb⟩),?_⟩⟩
     rw [List.getElem?_drop] at hj
     simp [World.cell?,hh]
     simpa using hj
    ·cases hl
   ·cases hl
theorem getA_args0 : ∀ (args : List AV) (k j : Nat),getA (args0 args k) j = if k ≤ j then (args[j - k]?).getD .dead else .dead
 | [],k,j => by simp [args0,getA]
 | x :: xs,k,j => by
  simp only [args0,getA]
  rw [getA_args0 xs (k + 1) j]
  by_cases h : j = k
  ·subst h; simp
  ·rw [if_neg h]
   by_cases h2 : k ≤ j
   ·rw [if_pos (by omega),if_pos h2]
    have : j - k = (j - (k + 1)) + 1:= by omega
    rw [this,List.getElem?_cons_succ]
   ·rw [if_neg (by omega),if_neg h2]
theorem inv_start (hR : R.Start) {c0 : List (Nat × List AV)} (hh : R.Holds R c0) (hd : ∀ c cs,getC c0 c = some cs → ∃ b,R.loc c = some b) {args : List AV} {cargs : List Value} (hargs : RepL R args cargs) {n : Nat} (hn : args.length ≤ n)
  (hpar : ∀ c b,R.loc c = some b → n ≤ c) (hnl : n ≤ 100000) : Inv R n (env0M args c0) { tmps:= cargs.toArray ++ Array.replicate (n - cargs.toArray.size) undef,defers:= [] } R:= by
 have hl:= hargs.length
 refine ⟨rfl,hnl,fun c b hc _ => hc,by simp; omega,rfl,hR.Bok,BelowX.refl _ _,hR.Mlt,hR.MS,fun c b hc => ⟨hpar c b hc,.inr hc⟩,rfl,fun _ _ _ => Iff.rfl,hR.S,fun g τ h => absurd h (hR.own g τ),fun g τ _ h => absurd h (hR.own g τ),fun c b h => ?_,hd,hR.loc1,fun t b h => (by rw [hR.mloc t] at h; cases h),fun t t' b h => (by rw [hR.mloc t] at h; cases h),fun k => ?_⟩
 ·obtain ⟨cs,vals,ty,e1,e2,e3,e4⟩:= hh c b h
  exact ⟨.inr h,hR.MS b ⟨c,h⟩,hR.own b,cs,vals,ty,e1,e2,e3.mono (Ext.closed_le R),e4⟩
 simp only [env0M,getA_args0,Nat.zero_le,if_true,Nat.sub_zero]
 cases hk : args[k]? with
 | none => simp [Rep]
 | some x =>
  obtain ⟨v,hv,hrep⟩:= hargs.get k hk
  have hlt:= (List.getElem?_eq_some_iff.1 hv).1
  simp only [Option.getD_some]
  rw [Array.getD_eq_getD_getElem?,Array.getElem?_append_left (by simpa using hlt)]
  simp only [List.getElem?_toArray,hv,Option.getD_some]
  exact hrep
def resv (tmps : Array Value) : ResultVar → Sem Value
 | .tmp t => pure (tmps.getD t undef)
 | .cell t ty => do loadVar ty (← asAddr (tmps.getD t undef))
theorem rv_run (h : Inv R N env a E) : ∀ (rs : List ResultVar) (rvs : List RV) (xs : List AV),mapO (resRV P) rs = some rvs → mapO (rvVal env) rvs = some xs →
  ∃ vs,(rs.mapM (resv a.tmps)).run P E.w = Result.ok vs E.w ∧ RepL E xs vs
 | [],rvs,xs,h1,h2 => by
  simp only [mapO] at h1
  injection h1 with h1
  subst h1
  simp only [mapO] at h2
  injection h2 with h2
  subst h2
  exact ⟨[],by simp [Sem.run],by simp [RepL]⟩
 | r :: rs,rvs,xs,h1,h2 => by
  simp only [mapO] at h1
  split at h1
  case h_2 => cases h1
  rename_i rv hrv
  split at h1
  case h_2 => cases h1
  rename_i rvs' hrvs
  injection h1 with h1
  subst h1
  simp only [mapO] at h2
  split at h2
  case h_2 => cases h2
  rename_i x hx
  split at h2
  case h_2 => cases h2
  rename_i xs' hxs
  injection h2 with h2
  subst h2
  obtain ⟨vs,hvs,hrep⟩:= rv_run h rs rvs' xs' hrvs hxs
  cases r with
  | tmp t =>
   simp only [resRV] at hrv
   injection hrv with hrv
   subst hrv
   simp only [rvVal] at hx
   injection hx with hx
   subst hx
   refine ⟨a.tmps.getD t undef :: vs,?_,by simp only [RepL]; exact ⟨_,_,rfl,h.slots t,hrep⟩⟩
   rw [List.mapM_cons]
   simp [Sem.run_bind,Sem.run,hvs,resv]
  | cell t ty =>
   simp only [resRV] at hrv
   split at hrv
   case h_2 => cases hrv
   rename_i b i hb hi
   injection hrv with hrv
   subst hrv
   simp only [rvVal] at hx
   split at hx
   case h_2 => cases hx
   rename_i c o hc
   split at hx
   case h_2 => cases hx
   rename_i cs hcs
   have hs:= h.slots t
   rw [hc] at hs
   simp only [Rep] at hs
   obtain ⟨bl,hl,he⟩:= hs
   obtain ⟨_,_,_,cs',vals,ty',hcs',hh,hr,_⟩:= h.locc c bl hl
   rw [hcs] at hcs'
   injection hcs' with hcs'
   subst hcs'
   have hat : At E.w (fun _ _ => True) (vals.toList.drop o) bl o:= by
    intro j u hj
    refine ⟨trivial,?_⟩
    rw [List.getElem?_drop] at hj
    simp [World.cell?,hh]
    simpa using hj
   obtain ⟨v,hv,hvr⟩:= run_loadVar (P:= P) hb hi hat (hr.drop o) hx
   refine ⟨v :: vs,?_,by simp only [RepL]; exact ⟨_,_,rfl,hvr,hrep⟩⟩
   rw [List.mapM_cons]
   simp [Sem.run_bind,Sem.run,hvs,he,asAddr,hv,resv]
theorem getC_mem {α : Type} [Inhabited α] {l : List (Nat × List AV)} {k : Nat} {x : List AV} (h : getC l k = some x) : (k,x) ∈ l:= by
 induction l with
 | nil => cases h
 | cons q r ih =>
  obtain ⟨j,y⟩:= q
  simp only [getC] at h
  split at h
  ·rename_i e
   injection h with h
   subst e h
   simp
  ·exact List.mem_cons_of_mem _ (ih h)
theorem retC_get {env : Env} : ∀ {ks : List Nat} {c1 : List (Nat × List AV)},retC env ks = some c1 → ∀ k ∈ ks,∃ cs l,env.c k = some cs ∧ mapO (retv (locC env.c) false 8) cs = some l ∧ getC c1 k = some l
 | [],c1,h,k,hk => by simp at hk
 | j :: ks,c1,h,k,hk => by
  simp only [retC,mapO] at h
  split at h
  case h_2 => cases h
  rename_i y hy
  split at h
  case h_2 => cases h
  rename_i ys hys
  injection h with h
  subst h
  split at hy
  case h_2 => cases hy
  rename_i cs hcs
  split at hy
  case h_2 => cases hy
  rename_i l hl
  injection hy with hy
  subst hy
  by_cases e : k = j
  ·subst e
   exact ⟨cs,l,hcs,hl,by simp [getC]⟩
  ·obtain ⟨cs2,l2,h1,h2,h3⟩:= retC_get (ks:= ks) (c1:= ys) hys k ((List.mem_cons.1 hk).resolve_left e)
   exact ⟨cs2,l2,h1,h2,by simp only [getC,if_neg e]; exact h3⟩
theorem AM_of {A : List Nat} {f : FuncId} {fn : Func} {code : Code} {body : ACode} {rvs : List RV} {args : List AV} {c0 c1 : List (Nat × List AV)} {r : AV} (hm : P.follows .mixedOrders = true)
  (hf : P.funcs[f]? = some fn) (hn : (fn.name == "runtime.NumGoroutine") = false) (hb : fn.body = some code) (hres : resCode P A code = body.plain) (hN : slotsOK fn.ntmps code = true) (hrv : mapO (resRV P) fn.results.toList = some rvs)
  (hargs : args.length ≤ fn.ntmps) (hok : resOK r = true) (hnt : fn.ntmps ≤ 100000) (hc0 : ∀ q ∈ c0,100000 ≤ q.1)
  (h : aw P body (env0M args c0) fun ex E => (match ex with | .exit _ => False | _ => True) ∧ retR E rvs = some r ∧ retC E (c0.map (·.1)) = some c1) : AM P f args c0 r c1:= by
 refine ⟨hok,enters_of hf hn (by rw [hb]; rfl),fun R cargs hR hh hd hrep => ?_⟩
 have hlim : ∀ c b,R.loc c = some b → 100000 ≤ c:= fun c b hcb => by
  obtain ⟨cs,_,_,e,_⟩:= hh c b hcb
  exact hc0 _ (getC_mem (α:= Nat) e)
 refine calls_of_wp hf hb ?_
 refine aw_sound hR hm body code (env0M args c0) _ R _ _ hres hN (inv_start hR hh hd hrep hargs (fun c b hcb => Nat.le_trans hnt (hlim c b hcb)) hnt) h ?_
 intro ex env' a' E' hq hI'
 obtain ⟨hex,hret,hretc⟩:= hq
 have hholds : R.Holds E'.left c1:= by
  intro c b hcb
  obtain ⟨cs0,_,_,e0,_⟩:= hh c b hcb
  obtain ⟨cs,l,e1,e2,e3⟩:= retC_get hretc c (List.mem_map.2 ⟨_,getC_mem (α:= Nat) e0,rfl⟩)
  obtain ⟨b',hb'⟩:= hI'.locd c cs e1
  have hbb : b' = b:= by
   rcases (hI'.par c b hcb).2 with h1 | h1
   ·rw [h1] at hb'; cases hb'
   ·rw [h1] at hb'; injection hb' with hb'; exact hb'.symm
  subst hbb
  obtain ⟨_,_,_,cs',vals,ty,hcs',hheap,hrr,ho⟩:= hI'.locc c b' hb'
  rw [e1] at hcs'
  injection hcs' with hcs'
  subst hcs'
  exact ⟨l,vals,ty,e3,hheap,mapO_rep (E':= E'.left.closed) (fun x y v h1 h2 => retv_rep hI' 8 false h1 h2) e2 hrr,ho⟩
 have main : a'.defers = [] ∧ ∃ v,(results fn a'.tmps).run P E'.w = .ok v E'.w ∧ ∃ v' E'',Ending.returned v = .returned v' ∧ E''.w = E'.w ∧ Rep E'' r v' ∧ After R E'' ∧ R.Holds E'' c1:= by
  refine ⟨hI'.defers,?_⟩
  unfold retR at hret
  split at hret
  case h_2 => cases hret
  rename_i xs hxs
  obtain ⟨vs,hvs,hrepx⟩:= rv_run (P:= P) hI' fn.results.toList rvs xs hrv hxs
  have hmap : (fn.results.mapM (resv a'.tmps)).run P E'.w = Result.ok vs.toArray E'.w:= by
   rw [Array.mapM_eq_mapM_toList]
   simp [Sem.run_bind,hvs,Sem.run]
  have hrun : (results fn a'.tmps).run P E'.w = .ok (if h : vs.toArray.size = 1 then vs.toArray[0] else .tuple vs.toArray) E'.w:= by
   have hfun : results fn a'.tmps = (do let vs ← fn.results.mapM (resv a'.tmps); pure (if h : vs.size = 1 then vs[0] else .tuple vs)):= by
    unfold results
    congr 1
   rw [hfun,Sem.run_bind,hmap]
   rfl
  split at hret
  ·rename_i y hy
   injection hret with hret
   subst hret
   have hy':= mapO_rep (E':= E'.left) (fun x y v h1 h2 => retv_rep hI' 8 true h1 h2) hy hrepx
   simp only [RepL] at hy'
   obtain ⟨v,ws,rfl,hv,rfl⟩:= hy'
   exact ⟨_,hrun,v,E'.left,by simp,rfl,hv,hI'.after hlim,hholds⟩
  ·rename_i ys hne hys
   injection hret with hret
   subst hret
   have hy':= mapO_rep (E':= E'.left) (fun x y v h1 h2 => retv_rep hI' 8 true h1 h2) hys hrepx
   have hl:= hy'.length
   have hsz : vs.toArray.size ≠ 1:= by
    intro h1
    rw [List.size_toArray,hl] at h1
    match ys,h1 with
    | [y],_ => exact hne y rfl
   refine ⟨_,hrun,.tuple vs.toArray,E'.left,by rw [dif_neg hsz],rfl,?_,hI'.after hlim,hholds⟩
   simp only [Rep]
   exact ⟨vs,rfl,hy'⟩
  ·cases hret
 cases ex with
 | normal => exact main
 | ret => exact main
 | exit i => exact hex.elim
end
end Go.Proofs.YtnndbbmidoidpaaGreatDoor.VL
end

section
namespace Go.Proofs.YtnndbbmidoidpaaGreatDoor.VL
open Go.RowKit
def closedOf (P : Program) (fn : Func) (A : List Nat:= []) : Bool × Option Bool × Option (List RV) × Option ACode × Nat :=
 (fn.name == "runtime.NumGoroutine",fn.body.map (slotsOK fn.ntmps),mapO (resRV P) fn.results.toList,fn.body.map (resCode P A),fn.ntmps)
def endQ (rvs : List RV) (r : AV) : AExit → Env → Prop
 | .exit _,_ => False
 | _,E => retR E rvs = some r
def endM (rvs : List RV) (r : AV) (ks : List Nat) (c1 : List (Nat × List AV)) : AExit → Env → Prop
 | .exit _,_ => False
 | _,E => retR E rvs = some r ∧ retC E ks = some c1
theorem AM_mk {A : List Nat} {P : Program} {f : FuncId} {fn : Func} {body : ACode} {rvs : List RV} {n : Nat} {args : List AV} {c0 c1 : List (Nat × List AV)} {r : AV} (hm : P.follows .mixedOrders = true) (hf : P.funcs[f]? = some fn)
    (hc : closedOf P fn A = (false, some true, some rvs, some body.plain, n)) (hargs : args.length ≤ n) (hok : resOK r = true) (hn : n ≤ 100000) (hc0 : ∀ q ∈ c0, 100000 ≤ q.1) (h : aw P body (env0M args c0) (endM rvs r (c0.map (·.1)) c1)) : AM P f args c0 r c1 := by
  simp only [closedOf, Prod.mk.injEq] at hc
  obtain ⟨h1, h2, h3, h4, h5⟩ := hc
  obtain ⟨code, hb, h2⟩ := Option.map_eq_some_iff.1 h2
  rw [hb] at h4
  simp only [Option.map_some, Option.some.injEq] at h4
  refine AM_of hm hf h1 hb h4 h2 h3 (by rw [h5]; exact hargs) hok (by rw [h5]; exact hn) hc0 (aw_mono _ h fun ex E hq => ?_)
  cases ex with
  | normal => exact ⟨trivial, hq⟩
  | ret => exact ⟨trivial, hq⟩
  | exit i => exact hq.elim
where
  aw_mono {P : Program} : ∀ (c : ACode) {E : Env} {Q Q' : AExit → Env → Prop}, aw P c E Q → (∀ ex E, Q ex E → Q' ex E) → aw P c E Q'
    | .skip, E, Q, Q', h, hq => hq _ _ h
    | .ret, E, Q, Q', h, hq => hq _ _ h
    | .bad, E, Q, Q', h, hq => h.elim
    | .exit i, E, Q, Q', h, hq => hq _ _ h
    | .shift a, E, Q, Q', h, hq => by
      simp only [aw] at h ⊢
      obtain ⟨S, hvs, h⟩ := h
      exact ⟨S, hvs, fun E' hS => aw_mono a (h E' hS) hq⟩
    | .split xs ys kl, E, Q, Q', h, hq => by
      simp only [aw] at h ⊢
      exact awOps_mono xs (fun E ⟨S, hvs, h⟩ => ⟨S, hvs, fun E2 hS => awOps_mono ys (fun E h => hq _ _ h) (h E2 hS)⟩) h
    | .any ops deps t kl, E, Q, Q', h, hq => by
      simp only [aw] at h ⊢
      exact ⟨h.1, awT_mono t (fun E h => hq _ _ h) h.2⟩
    | .region true ops kl, E, Q, Q', h, hq => by
      simp only [aw] at h ⊢
      exact awOpsD_mono ops (fun E h => hq _ _ h) h
    | .region false ops kl, E, Q, Q', h, hq => by
      simp only [aw] at h ⊢
      exact awOps_mono ops (fun E h => hq _ _ h) h
    | .seq a b, E, Q, Q', h, hq => by
      simp only [aw] at h ⊢
      exact aw_mono a h fun ex E h => by
        cases ex with
        | normal => exact aw_mono b h hq
        | exit i => exact hq _ _ h
        | ret => exact hq _ _ h
    | .cond c a b, E, Q, Q', h, hq => by
      simp only [aw] at h ⊢
      obtain ⟨t, ht, h1, h2⟩ := h
      exact ⟨t, ht, fun e => aw_mono a (h1 e) hq, fun e => aw_mono b (h2 e) hq⟩
    | .block i a kl, E, Q, Q', h, hq => by
      simp only [aw] at h ⊢
      exact aw_mono a h fun ex E h => by
        cases ex with
        | normal => exact hq _ _ h
        | exit j =>
          simp only [blockQ] at h ⊢
          split
          · rename_i hj; rw [if_pos hj] at h; exact hq _ _ h
          · rename_i hj; rw [if_neg hj] at h; exact hq _ _ h
        | ret => exact hq _ _ h
    | .loop a kl dl, E, Q, Q', h, hq => by
      simp only [aw] at h ⊢
      obtain ⟨I, n, h0, hr⟩ := h
      exact ⟨I, n, h0, fun m E' hi => aw_mono a (hr m E' hi) fun ex E h => by
        cases ex with
        | normal => exact h
        | exit i => exact hq _ _ h
        | ret => exact hq _ _ h⟩
  awOps_mono {P : Program} : ∀ (l : List AOper) {E : Env} {K K' : Env → Prop}, (∀ E, K E → K' E) → awOps P l E K → awOps P l E K'
    | [], E, K, K', hk, h => hk _ h
    | o :: os, E, K, K', hk, h => by
      rw [awOps_cons] at h ⊢
      exact awG_mono (fun E h => awOps_mono os hk h) h
  awOpsD_mono {P : Program} : ∀ (l : List AOper) {E : Env} {K K' : Env → Prop}, (∀ E, K E → K' E) → awOpsD P l E K → awOpsD P l E K'
    | [], E, K, K', hk, h => hk _ h
    | o :: os, E, K, K', hk, h => by
      simp only [awOpsD] at h ⊢
      exact awD_mono (fun E h => awOpsD_mono os hk h) h
  awT_mono {P : Program} {ops : List AOper} : ∀ (t : ATree) {E : Env} {K K' : Env → Prop}, (∀ E, K E → K' E) → awT P ops t E K → awT P ops t E K'
    | .done, E, K, K', hk, h => hk _ h
    | .non, E, K, K', hk, h => h
    | .take i t, E, K, K', hk, h => by
      simp only [awT] at h ⊢
      exact awD_mono (fun E h => awT_mono t hk h) h
    | .alt i t r, E, K, K', hk, h => by
      simp only [awT] at h ⊢
      exact ⟨awD_mono (fun E h => awT_mono t hk h) h.1, awT_mono r hk h.2⟩
  awG_mono {P : Program} {o : AOper} {E : Env} {K K' : Env → Prop} (hk : ∀ E, K E → K' E) (h : awG P o E K) : awG P o E K' := by
    have op : awOp P o E K → awOp P o E K' := by
      intro h
      unfold awOp at h ⊢
      split at h
      · obtain ⟨as, r, h1, h2, h3⟩ := h; exact ⟨as, r, h1, h2, hk _ h3⟩
      · obtain ⟨f, a, b, h0, as, r, h1, h2, h3⟩ := h; exact ⟨f, a, b, h0, as, r, h1, h2, hk _ h3⟩
      · exact h.imp (fun ⟨as, r, h1, h2, h3⟩ => ⟨as, r, h1, h2, hk _ h3⟩) fun ⟨m, as, c0, r, c1, h1, h2, h3, h4, h5⟩ => ⟨m, as, c0, r, c1, h1, h2, h3, h4, hk _ h5⟩
      · obtain ⟨f, a, b, h0, h⟩ := h
        exact ⟨f, a, b, h0, h.imp (fun ⟨as, r, h1, h2, h3⟩ => ⟨as, r, h1, h2, hk _ h3⟩) fun ⟨m, as, c0, r, c1, h1, h2, h3, h4, h5⟩ => ⟨m, as, c0, r, c1, h1, h2, h3, h4, hk _ h5⟩⟩
      · obtain ⟨d, h1, h2⟩ := h; exact ⟨d, h1, h2.imp (hk _) (hk _)⟩
      · obtain ⟨E', h1, h2⟩ := h; exact ⟨E', h1, hk _ h2⟩
    unfold awG at h ⊢
    split at h
    · exact op h
    · obtain ⟨t, ht, h3, h4⟩ := h
      exact ⟨t, ht, fun e => op (h3 e), fun e => hk _ (h4 e)⟩
theorem AC_mk {A : List Nat} {P : Program} {f : FuncId} {fn : Func} {body : ACode} {rvs : List RV} {n : Nat} {args : List AV} {r : AV} (hm : P.follows .mixedOrders = true) (hf : P.funcs[f]? = some fn)
  (hc : closedOf P fn A = (false,some true,some rvs,some body.plain,n)) (hargs : args.length ≤ n) (hok : resOK r = true) (hn : n ≤ 100000) (h : aw P body (env0 args) (endQ rvs r)) : AC P f args r :=
 AM_mk hm hf hc hargs hok hn (fun q hq => by simp at hq) (AM_mk.aw_mono _ h fun ex E hq => by
  cases ex with
  | exit i => exact hq
  | normal => exact ⟨hq,rfl⟩
  | ret => exact ⟨hq,rfl⟩)
def mkE (s : List (Nat × AV)) (c : List (Nat × List AV)) : Env:= ⟨getA s,getC c⟩
theorem env0M_mk (args : List AV) (c0 : List (Nat × List AV)) : env0M args c0 = mkE (args0 args 0) c0:= rfl
theorem mkE_s (s : List (Nat × AV)) (c : List (Nat × List AV)) (k : Nat) : (mkE s c).s k = getA s k:= rfl
theorem mkE_c (s : List (Nat × AV)) (c : List (Nat × List AV)) (k : Nat) : (mkE s c).c k = getC c k:= rfl
theorem getA_putA (k : Nat) (x : AV) : ∀ (l : List (Nat × AV)) (j : Nat),getA (putA l k x) j = if j = k then x else getA l j
 | [],j => by simp only [putA,getA]
 | (i,y) :: r,j => by
  simp only [putA]
  split
  ·simp only [getA]
  ·rename_i h1
   split
   ·rename_i h2
    simp only [getA]
    split <;> rename_i h3
    ·rfl
    ·rw [if_neg (by omega)]
   ·rename_i h2
    simp only [getA,getA_putA k x r j]
    split <;> rename_i h3
    ·rw [if_neg (by omega)]
    ·rfl
theorem getC_putA (k : Nat) (x : List AV) : ∀ (l : List (Nat × List AV)) (j : Nat),getC (putA l k x) j = if j = k then some x else getC l j
 | [],j => by simp only [putA,getC]
 | (i,y) :: r,j => by
  simp only [putA]
  split
  ·simp only [getC]
  ·rename_i h1
   split
   ·rename_i h2
    simp only [getC]
    split <;> rename_i h3
    ·rfl
    ·rw [if_neg (by omega)]
   ·rename_i h2
    simp only [getC,getC_putA k x r j]
    split <;> rename_i h3
    ·rw [if_neg (by omega)]
    ·rfl
theorem mkE_put (s : List (Nat × AV)) (c : List (Nat × List AV)) (k : Nat) (x : AV) : (mkE s c).put k x = mkE (putA s k x) c:= by
 simp only [mkE,Env.put,Env.mk.injEq,and_true]
 funext j
 rw [getA_putA]
 rfl
theorem mkE_putc (s : List (Nat × AV)) (c : List (Nat × List AV)) (k : Nat) (x : List AV) : (mkE s c).putc k x = mkE s (putA c k x):= by
 simp only [mkE,Env.putc,Env.mk.injEq,true_and]
 funext j
 rw [getC_putA]
 rfl
def dropL {α : Type} (kl : List Nat) : List (Nat × α) → List (Nat × α)
 | [] => []
 | (j,x) :: r => if kl.contains j then dropL kl r else (j,x) :: dropL kl r
theorem getA_dropL (kl : List Nat) : ∀ (l : List (Nat × AV)) (j : Nat),getA (dropL kl l) j = if kl.contains j then .dead else getA l j
 | [],j => by simp [dropL,getA]
 | (i,y) :: r,j => by
  simp only [dropL]
  by_cases h : kl.contains i = true
  ·rw [if_pos h,getA_dropL kl r j]
   simp only [getA]
   by_cases hj : j = i
   ·subst hj; rw [if_pos h,if_pos h]
   ·rw [if_neg hj]
  ·rw [if_neg h]
   simp only [getA,getA_dropL kl r j]
   by_cases hj : j = i
   ·subst hj; rw [if_pos rfl,if_neg h,if_pos rfl]
   ·rw [if_neg hj,if_neg hj]
theorem mkE_dropS (s : List (Nat × AV)) (c : List (Nat × List AV)) (kl : List Nat) : (mkE s c).dropS kl = mkE (dropL kl s) c:= by
 simp only [mkE,Env.dropS,Env.mk.injEq,and_true]
 funext j
 rw [getA_dropL]
def mapV {α : Type} (f : α → α) : List (Nat × α) → List (Nat × α)
 | [] => []
 | (j,x) :: r => (j,f x) :: mapV f r
theorem getA_mapV (f : AV → AV) (hf : f .dead = .dead) : ∀ (l : List (Nat × AV)) (j : Nat),getA (mapV f l) j = f (getA l j)
 | [],j => by simp [mapV,getA,hf]
 | (i,y) :: r,j => by
  simp only [mapV,getA,getA_mapV f hf r j]
  split <;> rfl
theorem getC_mapV (f : List AV → List AV) : ∀ (l : List (Nat × List AV)) (j : Nat),getC (mapV f l) j = (getC l j).map f
 | [],j => by simp [mapV,getC]
 | (i,y) :: r,j => by
  simp only [mapV,getC,getC_mapV f r j]
  split <;> rfl
theorem getC_dropL (d : Nat) : ∀ (l : List (Nat × List AV)) (j : Nat),getC (dropL [d] l) j = if j = d then none else getC l j
 | [],j => by simp [dropL,getC]
 | (i,y) :: r,j => by
  simp only [dropL]
  by_cases h : i = d
  ·subst h
   rw [if_pos (by simp),getC_dropL i r j]
   simp only [getC]
   by_cases hj : j = i
   ·simp [hj]
   ·simp [hj]
  ·rw [if_neg (by simp [h])]
   simp only [getC,getC_dropL d r j]
   by_cases hj : j = i
   ·subst hj; simp [h]
   ·simp [hj]
theorem mkE_fresh (s : List (Nat × AV)) (c : List (Nat × List AV)) (d : Nat) : (mkE s c).fresh d = match getC c d with | none => mkE s c | some _ => mkE (mapV (kill d) s) (mapV (killL d) (dropL [d] c)):= by
 unfold Env.fresh
 rw [mkE_c]
 cases hc : getC c d with
 | none => rfl
 | some v =>
  simp only [mkE,Env.forget,Env.mk.injEq]
  constructor
  ·funext j; rw [getA_mapV _ rfl]
  ·funext j
   rw [getC_mapV,getC_dropL]
   split <;> rfl
theorem mkE_strip (s : List (Nat × AV)) (c : List (Nat × List AV)) (τ : List Nat) : (mkE s c).strip τ = mkE (mapV (strip τ) s) (mapV (stripL τ) c):= by
 simp only [mkE,Env.strip,Env.mk.injEq]
 constructor
 ·funext j; rw [getA_mapV _ rfl]
 ·funext j; rw [getC_mapV]
end Go.Proofs.YtnndbbmidoidpaaGreatDoor.VL
end

